/- What the functions of sets of texts give, plainly told, and that nothing that is handed in changes. -/
import Derived.Test.YthjjbjnfckjohaaGreatVuSg1
import Derived.Test.YthjjbjnfckjohaaGreatVuGm1
set_option linter.unusedVariables false
set_option maxRecDepth 100000
namespace Go.Vu.Sg
open Go Go.Vu Go.Vu.Rm Go.Sort Go.Vu.Srt
noncomputable section
theorem fuN_le : 9223372036854775808 ≤ fuN := fuelN_le
theorem lk_mid {α : Type} {pre rest : List α} {x : α} : lk (pre ++ x :: rest) ((pre.length : Nat) : Int) = some x := by
  unfold lk
  rw [if_pos (by omega)]
  simp
theorem set_mid {α : Type} {o : List α} {z w : α} : (o ++ [z]).set o.length w = o ++ [w] := by simp
theorem room8 {n : Nat} (h : n ≤ 1000000000) : roomOk n 8 = true := by
  unfold roomOk
  simp only [decide_eq_true_eq]
  omega
theorem wrap32 {x : Int} (h1 : -2147483648 ≤ x) (h2 : x < 2147483648) : IntKind.i32.wrap x = x := by
  simp only [IntKind.wrap, IntKind.signed, IntKind.bits]
  simp
  omega
theorem app_mid {α : Type} {pre rest : List α} {x : α} : pre ++ x :: rest = (pre ++ [x]) ++ rest := by simp
theorem len_succ {α : Type} {pre : List α} {x : α} : (pre ++ [x]).length = pre.length + 1 := by simp
theorem lt_mid {α : Type} {pre rest : List α} {x : α} : ((pre.length : Nat) : Int) < ((pre ++ x :: rest).length : Int) := by simp; omega
theorem w_mid {α : Type} {pre : List α} {x : α} (h : pre.length ≤ 200000000) : IntKind.i64.wrap (((pre.length : Nat) : Int) + 1) = (((pre ++ [x]).length : Nat) : Int) := by
  rw [len_succ]
  exact w_succ (by omega)
theorem w_last {α : Type} {o : List α} {z : α} (h : o.length ≤ 200000000) : IntKind.i64.wrap ((((o ++ [z]).length : Nat) : Int) - 1) = ((o.length : Nat) : Int) := by
  rw [len_succ]
  exact w_pred (by omega)
theorem clip_loop : ∀ (rest pre g : List Rg) (n : Nat), pre.length + rest.length ≤ 100000000 → g.length + rest.length ≤ 100000000 → rest.length < n →
   iterN (fun x => rNorm_s3 x.1 x.2.1 x.2.2.1 x.2.2.2.1) n (g, (pre ++ rest, (((pre ++ rest).length : Int), (((pre.length : Nat) : Int), ())))) = some (g ++ clipL rest, ()) := by
  intro rest
  induction rest with
  | nil =>
   intro pre g n h1 h2 hn
   obtain ⟨n, rfl⟩ := succ_of hn
   refine iterN_inr ?_
   simp [rNorm_s3, clipL]
  | cons r rest ih =>
   intro pre g n h1 h2 hn
   simp only [List.length_cons] at h1 h2 hn
   obtain ⟨n, rfl⟩ := succ_of hn
   have hlt : ((pre.length : Nat) : Int) < ((pre ++ r :: rest).length : Int) := lt_mid
   have ew : IntKind.i64.wrap (((pre.length : Nat) : Int) + 1) = (((pre ++ [r]).length : Nat) : Int) := w_mid (by omega)
   by_cases hc : (clip1 r).1 ≤ (clip1 r).2
   ·have e : g ++ clipL (r :: rest) = (g ++ [clip1 r]) ++ clipL rest := by
     simp [clipL, hc]
    have hs := ih (pre ++ [r]) (g ++ [clip1 r]) n (by simp; omega) (by simp; omega) (by omega)
    rw [e]
    rw [← app_mid] at hs
    refine (iterN_inl ?_).trans hs
    have hc' : (decide ((if (0 : Int) > r.1 then (0 : Int) else r.1) ≤ (if (1114111 : Int) < r.2 then (1114111 : Int) else r.2))) = true := by
     simp only [decide_eq_true_eq]; exact hc
    have hr : roomOk (g.length + [((if (0 : Int) > r.1 then (0 : Int) else r.1), (if (1114111 : Int) < r.2 then (1114111 : Int) else r.2))].length) 8 = true := room8 (by simp; omega)
    simp only [rNorm_s3, hlt, decide_true, cond_true, lk_mid, Option.bind_some, hc', hr, ew]
    rfl
   ·have e : g ++ clipL (r :: rest) = g ++ clipL rest := by
     simp [clipL, hc]
    have hs := ih (pre ++ [r]) g n (by simp; omega) (by omega) (by omega)
    rw [e]
    rw [← app_mid] at hs
    refine (iterN_inl ?_).trans hs
    have hc' : (decide ((if (0 : Int) > r.1 then (0 : Int) else r.1) ≤ (if (1114111 : Int) < r.2 then (1114111 : Int) else r.2))) = false := by
     simp only [decide_eq_false_iff_not]; exact hc
    simp only [rNorm_s3, hlt, decide_true, cond_true, cond_false, lk_mid, Option.bind_some, hc', ew]
theorem merge_loop : ∀ (rest pre o : List Rg) (z : Rg) (n : Nat), pre.length + rest.length ≤ 100000000 → o.length + rest.length ≤ 100000000 → Valid (z :: rest) → rest.length < n →
   iterN (fun x => rNorm_s11 x.1 x.2.1 x.2.2.1 x.2.2.2.1) n (o ++ [z], (pre ++ rest, (((pre ++ rest).length : Int), (((pre.length : Nat) : Int), ())))) = some (o ++ mergeC z rest, ()) := by
  intro rest
  induction rest with
  | nil =>
   intro pre o z n h1 h2 hv hn
   obtain ⟨n, rfl⟩ := succ_of hn
   refine iterN_inr ?_
   simp [rNorm_s11, mergeC]
  | cons r rest ih =>
   intro pre o z n h1 h2 hv hn
   simp only [List.length_cons] at h1 h2 hn
   obtain ⟨n, rfl⟩ := succ_of hn
   have hz := hv z (by simp)
   have hr := hv r (by simp)
   have hlt : ((pre.length : Nat) : Int) < ((pre ++ r :: rest).length : Int) := lt_mid
   have ew : IntKind.i64.wrap (((pre.length : Nat) : Int) + 1) = (((pre ++ [r]).length : Nat) : Int) := w_mid (by omega)
   have hg0 : (((o ++ [z]).length : Nat) : Int) > 0 := by simp
   have el : IntKind.i64.wrap ((((o ++ [z]).length : Nat) : Int) - 1) = ((o.length : Nat) : Int) := w_last (by omega)
   have ez : IntKind.i32.wrap (z.2 + 1) = z.2 + 1 := wrap32 (by omega) (by omega)
   have hlk : lk (o ++ [z]) ((o.length : Nat) : Int) = some z := lk_mid
   simp only [mergeC]
   by_cases hc : r.1 ≤ z.2 + 1
   ·rw [if_pos hc]
    have hs := ih (pre ++ [r]) o (z.1, if r.2 > z.2 then r.2 else z.2) n (by simp; omega) (by omega) (fun q hq => by
     rcases List.mem_cons.1 hq with rfl | hq
     ·simp only
      refine ⟨hz.1, ?_, ?_⟩ <;> split <;> omega
     ·exact hv q (by simp [hq])) (by omega)
    rw [← app_mid] at hs
    refine (iterN_inl ?_).trans hs
    simp only [rNorm_s11, hlt, decide_true, cond_true, lk_mid, Option.bind_some, hg0, el, hlk, ez, hc, Int.toNat_natCast, set_mid, ew]
   ·rw [if_neg hc]
    have hs := ih (pre ++ [r]) (o ++ [z]) r n (by simp; omega) (by simp; omega) (fun q hq => hv q (by simp at hq ⊢; exact .inr hq)) (by omega)
    rw [show (pre ++ [r]) ++ rest = pre ++ r :: rest by simp] at hs
    have e : (o ++ [z]) ++ mergeC r rest = o ++ z :: mergeC r rest := by simp
    rw [e] at hs
    refine (iterN_inl ?_).trans hs
    have hrm : roomOk ((o ++ [z]).length + [r].length) 8 = true := room8 (by simp; omega)
    simp only [rNorm_s11, hlt, decide_true, decide_false, cond_true, cond_false, lk_mid, Option.bind_some, hg0, el, hlk, ez, hc, hrm, ew]
theorem merge_all (s : List Rg) (hs : s.length ≤ 50000000) (hv : Valid s) :
   iterN (fun x => rNorm_s11 x.1 x.2.1 x.2.2.1 x.2.2.2.1) fuN (([] : List (Int × Int)), (s, ((s.length : Int), ((0 : Int), ())))) = some (mergeL s, ()) := by
  cases s with
  | nil =>
   obtain ⟨n, hn⟩ := succ_of (show 0 < fuN by have := fuN_le; omega)
   rw [hn]
   refine iterN_inr ?_
   simp [rNorm_s11, mergeL]
  | cons r rest =>
   simp only [List.length_cons] at hs
   obtain ⟨n, hn⟩ := succ_of (show 0 < fuN by have := fuN_le; omega)
   have hn' : rest.length < n := by have := fuN_le; omega
   rw [hn]
   have h1 := merge_loop rest [r] [] r n (by simp; omega) (by simp; omega) hv hn'
   refine (iterN_inl ?_).trans h1
   have hlt : (0 : Int) < ((r :: rest).length : Int) := by simp
   have hl0 : lk (r :: rest) (0 : Int) = some r := rfl
   have ew : IntKind.i64.wrap ((0 : Int) + 1) = ((([r] : List Rg).length : Nat) : Int) := by show IntKind.i64.wrap ((0 : Int) + 1) = 1; decide
   have hrm : roomOk (([] : List (Int × Int)).length + [r].length) 8 = true := room8 (by simp)
   have hg0 : ¬ ((([] : List (Int × Int)).length : Nat) : Int) > 0 := by simp
   simp only [rNorm_s11, hlt, decide_true, decide_false, cond_true, cond_false, hl0, Option.bind_some, hg0, hrm, ew]
   rfl
theorem c_less_is (p q : Rg) : c_less p q = some ((), ((fun p q : Rg => decide (cmpv p.1 q.1 < 0)) p q, ())) := rfl
theorem cmpv_lt (x y : Int) : (cmpv x y < 0) ↔ x < y := by
  unfold cmpv
  split
  ·constructor <;> intro _ <;> first | assumption | decide
  ·split <;> constructor <;> intro h <;> omega
theorem c_swo : SWO (fun p q : Rg => decide (cmpv p.1 q.1 < 0)) where
  irrefl x := by simp [cmpv_lt]
  trans x y z h1 h2 := by simp [cmpv_lt] at *; omega
  ntrans x y z h1 h2 := by simp [cmpv_lt] at *; omega
theorem perm_of {α : Type} [Inhabited α] {d d' : Array α} (h : PermIn 0 d.size d d') : d'.toList.Perm d.toList := by
  obtain ⟨h1, _, h3⟩ := h
  have e1 : d.extract 0 d.size = d := by simp
  have e2 : d'.extract 0 d.size = d' := by rw [← h1]; simp
  rw [e1, e2] at h3
  exact h3
theorem sortF_spec (l : List Rg) (h : l.length ≤ 100000000) : ∃ s, sortF l = some (s, ()) ∧ s.Perm l ∧ SortedLo s := by
  have hb : Sort.bitsLen l.length ≤ 61 := (bitsLen_le_iff l.length 61).2 (by omega)
  obtain ⟨d', h1, h2, h3⟩ := pdqN_sorts c_less_is c_swo (l.length + 1) 0 l.toArray.size (Sort.bitsLen l.length) l.toArray (by simp) (by omega) (by omega) (by simp; omega) (by omega) (.inl rfl)
  have e0 : IntKind.u64.wrap (l.length : Int) = (l.length : Int) := wrapu64 (by omega) (by omega)
  simp only [List.size_toArray] at h1
  have h1' : Srt.pdqN c_less (l.length + 1) l (0 : Int) (l.length : Int) ((Sort.bitsLen l.length : Nat) : Int) = some (d'.toList, ()) := h1
  refine ⟨d'.toList, ?_, by simpa using perm_of h2, ?_⟩
  ·simp only [sortF, sortG, e0, bitsLen_tie l.length (by omega), Option.bind_some, h1']
  ·refine List.pairwise_iff_getElem.2 fun i j hi hj hij => ?_
   simp only [Array.length_toList] at hi hj
   have hz : d'.size = l.length := by have := h2.1; simpa using this
   have := h3 i j (by omega) hij (by simp; omega)
   simp only [decide_eq_false_iff_not, cmpv_lt] at this
   simp only [Array.getElem_toList]
   rw [getElem!_pos d' j hj, getElem!_pos d' i hi] at this
   omega
theorem i_less_is (x y : Int) : i_less x y = some ((), ((fun x y : Int => decide (x < y)) x y, ())) := rfl
theorem i_swo : SWO (fun x y : Int => decide (x < y)) where
  irrefl x := by simp
  trans x y z h1 h2 := by simp at *; omega
  ntrans x y z h1 h2 := by simp at *; omega
theorem sortI_spec (l : List Int) (h : l.length ≤ 100000000) : ∃ s, sortI l = some (s, ()) ∧ s.Perm l ∧ s.Pairwise (· ≤ ·) := by
  refine ⟨_, sortG_tie i_less_is i_swo (fun x y h1 h2 => by simp at h1 h2; omega) l (by omega) (l.length + 1) (by omega), List.mergeSort_perm _ _, ?_⟩
  have := List.pairwise_mergeSort (le := fun x y : Int => !decide (y < x)) (fun a b c h1 h2 => by simp at h1 h2 ⊢; omega) (fun a b => by simp; omega) l
  exact this.imp (fun h => by simpa using h)
theorem rNorm_eq' (l : List Rg) (h : l.length ≤ 50000000) : rNorm l = some ((), (norm l, ())) := by
  have h1 := clip_loop l [] [] fuN (by simp; omega) (by simp; omega) (by have := fuN_le; omega)
  have hcl := clip_length l
  obtain ⟨s, h2, h3, h4⟩ := sortF_spec (clipL l) (by omega)
  have h5 := merge_all s (by rw [h3.length_eq]; omega) (fun r hr => clip_valid (h3.mem_iff.1 hr))
  simp only [List.nil_append, List.length_nil] at h1
  have h1' : iterN (fun x => rNorm_s3 x.1 x.2.1 x.2.2.1 x.2.2.2.1) fuN (([] : List (Int × Int)), (l, ((l.length : Int), ((0 : Int), ())))) = some (clipL l, ()) := h1
  simp only [rNorm, h1', Option.bind_some, h2, h5]
  rw [norm_eq h3 h4]
theorem slEqual_loop : ∀ (rest rest' pre pre' : List Rg) (n : Nat), pre.length = pre'.length → rest.length = rest'.length → pre.length + rest.length ≤ 100000000 → rest.length < n →
   iterN (fun x => slEqual_s4 x.1 x.2.1 x.2.2.1 x.2.2.2.1) n (pre ++ rest, (pre' ++ rest', (((pre ++ rest).length : Int), (((pre.length : Nat) : Int), ())))) =
    some (if rest = rest' then .inr () else .inl (false, ())) := by
  intro rest
  induction rest with
  | nil =>
   intro rest' pre pre' n h1 h2 h3 hn
   obtain ⟨n, rfl⟩ := succ_of hn
   have : rest' = [] := List.length_eq_zero_iff.1 (by simpa using h2.symm)
   subst this
   refine iterN_inr ?_
   simp [slEqual_s4]
  | cons r rest ih =>
   intro rest' pre pre' n h1 h2 h3 hn
   cases rest' with
   | nil => simp at h2
   | cons r' rest' =>
    simp only [List.length_cons, Nat.add_right_cancel_iff] at h2 h3 hn
    obtain ⟨n, rfl⟩ := succ_of hn
    have hlt : ((pre.length : Nat) : Int) < ((pre ++ r :: rest).length : Int) := lt_mid
    have ew : IntKind.i64.wrap (((pre.length : Nat) : Int) + 1) = (((pre ++ [r]).length : Nat) : Int) := w_mid (by omega)
    have hlk : lk (pre' ++ r' :: rest') ((pre.length : Nat) : Int) = some r' := by rw [h1]; exact lk_mid
    by_cases hc : r = r'
    ·subst hc
     have hs := ih rest' (pre ++ [r]) (pre' ++ [r]) n (by simp [h1]) h2 (by simp; omega) (by omega)
     rw [← app_mid, ← app_mid] at hs
     have e : (r :: rest = r :: rest') ↔ rest = rest' := by simp
     simp only [e]
     refine (iterN_inl ?_).trans hs
     have hd : (decide (r.1 = r.1) && decide (r.2 = r.2)) = true := by simp
     simp only [slEqual_s4, hlt, decide_true, cond_true, lk_mid, hlk, Option.bind_some, ew]
     rfl
    ·have e : ¬ (r :: rest = r' :: rest') := fun h => hc (List.cons.inj h).1
     rw [if_neg e]
     refine iterN_inr ?_
     have hd : (decide (r.1 = r'.1) && decide (r.2 = r'.2)) = false := by
      cases hb : (decide (r.1 = r'.1) && decide (r.2 = r'.2)) with
      | false => rfl
      | true =>
       simp only [Bool.and_eq_true, decide_eq_true_eq] at hb
       exact absurd (Prod.ext hb.1 hb.2) hc
     simp only [slEqual_s4, hlt, decide_true, cond_true, lk_mid, hlk, Option.bind_some, hd, Bool.not_false]
theorem slEqual_eq' (a b : List Rg) (h : a.length ≤ 50000000) : slEqual a b = some ((), (decide (a = b), ())) := by
  by_cases hl : a.length = b.length
  ·have h1 := slEqual_loop a b [] [] fuN rfl hl (by simp; omega) (by have := fuN_le; omega)
   have h1' : iterN (fun x => slEqual_s4 x.1 x.2.1 x.2.2.1 x.2.2.2.1) fuN (a, (b, ((a.length : Int), ((0 : Int), ())))) = some (if a = b then .inr () else .inl (false, ())) := h1
   have hne : ((a.length : Int) != (b.length : Int)) = false := by simp [hl]
   simp only [slEqual, hne, cond_false, Option.bind_some, h1']
   by_cases hab : a = b <;> simp [hab]
  ·have hne : ((a.length : Int) != (b.length : Int)) = true := by simp; omega
   have hab : a ≠ b := fun e => hl (by rw [e])
   simp only [slEqual, hne, cond_true, Option.bind_some]
   simp [hab]
def runG_s6 (kf : Bool → Bool → Option (Unit × (Bool × Unit))) (a1 : List (Int × Int)) (a2 : List (Int × Int)) (a7 : List Int) (a21 : List (Int × Int)) (a22 : Int) (a23 : Int) : Option ((List (Int × Int) × (List (Int × Int) × (Unit × (List Int × (List (Int × Int) × (Int × (Int × Unit))))))) ⊕ (List (Int × Int) × (List (Int × Int) × (Unit × (List Int × Unit))))) :=
 bif (decide (a23 < a22)) then
 (Option.bind (lk a21 a23) fun _x7 =>
 (Option.bind (lk a21 a23) fun x8 =>
 bif (roomOk (a7.length + [x8.1, (IntKind.i32.wrap (x8.2 + (1 : Int)))].length) 4) then
 some (.inl (a1, (a2, ((), ((a7 ++ [x8.1, (IntKind.i32.wrap (x8.2 + (1 : Int)))]), (a21, (a22, ((IntKind.i64.wrap (a23 + (1 : Int))), ()))))))))
 else none))
 else
 some (.inr (a1, (a2, ((), (a7, ())))))
def runG_s20 (kf : Bool → Bool → Option (Unit × (Bool × Unit))) (a1 : List (Int × Int)) (a2 : List (Int × Int)) (a7 : List Int) (a10 : List (Int × Int)) (a11 : Int) (a12 : Int) (a44 : (Nat × Nat)) (a45 : Int) (a46 : Int) : Option ((List (Int × Int) × (List (Int × Int) × (Unit × (List Int × (List (Int × Int) × (Int × (Int × ((Nat × Nat) × (Int × (Int × Unit)))))))))) ⊕ (List (Int × Int) × (List (Int × Int) × (Unit × (List Int × (List (Int × Int) × (Int × (Int × ((Nat × Nat) × (Int × (Int × Unit))))))))))) :=
 (Option.bind (show Option ((List (Int × Int) × (List (Int × Int) × (Unit × (List Int × (List (Int × Int) × (Int × (Int × ((Nat × Nat) × (Int × (Int × Unit)))))))))) ⊕ (List (Int × Int) × (List (Int × Int) × (Unit × (List Int × (List (Int × Int) × (Int × (Int × ((Nat × Nat) × (Int × (Int × Unit))))))))))) from
 bif (decide ((a1.length : Int) > (0 : Int))) then
 (Option.bind (lk a1 (0 : Int)) fun x22 =>
 bif (decide (x22.2 < a12)) then
 some (.inl (a1, (a2, ((), (a7, (a10, (a11, (a12, (a44, (a45, (a46, ())))))))))))
 else
 some (.inr (a1, (a2, ((), (a7, (a10, (a11, (a12, (a44, (a45, (a46, ()))))))))))))
 else
 some (.inr (a1, (a2, ((), (a7, (a10, (a11, (a12, (a44, (a45, (a46, ())))))))))))) fun y23 =>
 (match y23 with
 | .inl y23 =>
 bif (inB (1 : Int) (y23.1.length : Int) y23.1.length) then
 some (.inl ((cut y23.1 (1 : Int) (y23.1.length : Int)), (y23.2.1, ((), (y23.2.2.2.1, (y23.2.2.2.2.1, (y23.2.2.2.2.2.1, (y23.2.2.2.2.2.2.1, (y23.2.2.2.2.2.2.2.1, (y23.2.2.2.2.2.2.2.2.1, (y23.2.2.2.2.2.2.2.2.2.1, ())))))))))))
 else none
 | .inr y23 =>
 some (.inr (y23.1, (y23.2.1, ((), (y23.2.2.2.1, (y23.2.2.2.2.1, (y23.2.2.2.2.2.1, (y23.2.2.2.2.2.2.1, (y23.2.2.2.2.2.2.2.1, (y23.2.2.2.2.2.2.2.2.1, (y23.2.2.2.2.2.2.2.2.2.1, ())))))))))))))
def runG_s28 (kf : Bool → Bool → Option (Unit × (Bool × Unit))) (a1 : List (Int × Int)) (a2 : List (Int × Int)) (a7 : List Int) (a10 : List (Int × Int)) (a11 : Int) (a12 : Int) (a44 : (Nat × Nat)) (a45 : Int) (a46 : Int) : Option ((List (Int × Int) × (List (Int × Int) × (Unit × (List Int × (List (Int × Int) × (Int × (Int × ((Nat × Nat) × (Int × (Int × Unit)))))))))) ⊕ (List (Int × Int) × (List (Int × Int) × (Unit × (List Int × (List (Int × Int) × (Int × (Int × ((Nat × Nat) × (Int × (Int × Unit))))))))))) :=
 (Option.bind (show Option ((List (Int × Int) × (List (Int × Int) × (Unit × (List Int × (List (Int × Int) × (Int × (Int × ((Nat × Nat) × (Int × (Int × Unit)))))))))) ⊕ (List (Int × Int) × (List (Int × Int) × (Unit × (List Int × (List (Int × Int) × (Int × (Int × ((Nat × Nat) × (Int × (Int × Unit))))))))))) from
 bif (decide ((a2.length : Int) > (0 : Int))) then
 (Option.bind (lk a2 (0 : Int)) fun x30 =>
 bif (decide (x30.2 < a12)) then
 some (.inl (a1, (a2, ((), (a7, (a10, (a11, (a12, (a44, (a45, (a46, ())))))))))))
 else
 some (.inr (a1, (a2, ((), (a7, (a10, (a11, (a12, (a44, (a45, (a46, ()))))))))))))
 else
 some (.inr (a1, (a2, ((), (a7, (a10, (a11, (a12, (a44, (a45, (a46, ())))))))))))) fun y31 =>
 (match y31 with
 | .inl y31 =>
 bif (inB (1 : Int) (y31.2.1.length : Int) y31.2.1.length) then
 some (.inl (y31.1, ((cut y31.2.1 (1 : Int) (y31.2.1.length : Int)), ((), (y31.2.2.2.1, (y31.2.2.2.2.1, (y31.2.2.2.2.2.1, (y31.2.2.2.2.2.2.1, (y31.2.2.2.2.2.2.2.1, (y31.2.2.2.2.2.2.2.2.1, (y31.2.2.2.2.2.2.2.2.2.1, ())))))))))))
 else none
 | .inr y31 =>
 some (.inr (y31.1, (y31.2.1, ((), (y31.2.2.2.1, (y31.2.2.2.2.1, (y31.2.2.2.2.2.1, (y31.2.2.2.2.2.2.1, (y31.2.2.2.2.2.2.2.1, (y31.2.2.2.2.2.2.2.2.1, (y31.2.2.2.2.2.2.2.2.2.1, ())))))))))))))
def runG_s16 (kf : Bool → Bool → Option (Unit × (Bool × Unit))) (a1 : List (Int × Int)) (a2 : List (Int × Int)) (a7 : List Int) (a10 : List (Int × Int)) (a44 : (Nat × Nat)) (a45 : Int) (a46 : Int) : Option ((List (Int × Int) × (List (Int × Int) × (Unit × (List Int × (List (Int × Int) × ((Nat × Nat) × (Int × (Int × Unit)))))))) ⊕ (List (Int × Int) × Unit)) :=
 bif (decide (a46 < a45)) then
 bif (inR a46 a44.2) then
 (Option.bind (lk a7 (plusI a44.1 a46)) fun x17 =>
 (Option.bind (show Option (List (Int × Int) × (List (Int × Int) × (Unit × (List Int × (List (Int × Int) × (Int × (Int × ((Nat × Nat) × (Int × (Int × Unit)))))))))) from
 (Option.bind (iterN (fun x => runG_s20 kf x.1 x.2.1 x.2.2.2.1 x.2.2.2.2.1 x.2.2.2.2.2.1 x.2.2.2.2.2.2.1 x.2.2.2.2.2.2.2.1 x.2.2.2.2.2.2.2.2.1 x.2.2.2.2.2.2.2.2.2.1) fuN (a1, (a2, ((), (a7, (a10, (a46, (x17, (a44, (a45, (a46, ()))))))))))) fun y24 =>
 some (y24.1, (y24.2.1, ((), (y24.2.2.2.1, (y24.2.2.2.2.1, (y24.2.2.2.2.2.1, (y24.2.2.2.2.2.2.1, (y24.2.2.2.2.2.2.2.1, (y24.2.2.2.2.2.2.2.2.1, (y24.2.2.2.2.2.2.2.2.2.1, ())))))))))))) fun y25 =>
 (Option.bind (show Option (List (Int × Int) × (List (Int × Int) × (Unit × (List Int × (List (Int × Int) × (Int × (Int × ((Nat × Nat) × (Int × (Int × Unit)))))))))) from
 (Option.bind (iterN (fun x => runG_s28 kf x.1 x.2.1 x.2.2.2.1 x.2.2.2.2.1 x.2.2.2.2.2.1 x.2.2.2.2.2.2.1 x.2.2.2.2.2.2.2.1 x.2.2.2.2.2.2.2.2.1 x.2.2.2.2.2.2.2.2.2.1) fuN (y25.1, (y25.2.1, ((), (y25.2.2.2.1, (y25.2.2.2.2.1, (y25.2.2.2.2.2.1, (y25.2.2.2.2.2.2.1, (y25.2.2.2.2.2.2.2.1, (y25.2.2.2.2.2.2.2.2.1, (y25.2.2.2.2.2.2.2.2.2.1, ()))))))))))) fun y32 =>
 some (y32.1, (y32.2.1, ((), (y32.2.2.2.1, (y32.2.2.2.2.1, (y32.2.2.2.2.2.1, (y32.2.2.2.2.2.2.1, (y32.2.2.2.2.2.2.2.1, (y32.2.2.2.2.2.2.2.2.1, (y32.2.2.2.2.2.2.2.2.2.1, ())))))))))))) fun y33 =>
 (Option.bind (show Option (List (Int × Int) × (List (Int × Int) × (Unit × (List Int × (List (Int × Int) × (Int × (Int × ((Nat × Nat) × (Int × (Int × (Bool × Unit))))))))))) from
 bif (decide ((y33.1.length : Int) > (0 : Int))) then
 (Option.bind (lk y33.1 (0 : Int)) fun x35 =>
 bif (decide ((y33.2.1.length : Int) > (0 : Int))) then
 (Option.bind (lk y33.2.1 (0 : Int)) fun x36 =>
 (Option.bind (kf (decide (x35.1 ≤ y33.2.2.2.2.2.2.1)) (decide (x36.1 ≤ y33.2.2.2.2.2.2.1))) fun r37 =>
 some (y33.1, (y33.2.1, ((), (y33.2.2.2.1, (y33.2.2.2.2.1, (y33.2.2.2.2.2.1, (y33.2.2.2.2.2.2.1, (y33.2.2.2.2.2.2.2.1, (y33.2.2.2.2.2.2.2.2.1, (y33.2.2.2.2.2.2.2.2.2.1, (r37.2.1, ())))))))))))))
 else
 (Option.bind (kf (decide (x35.1 ≤ y33.2.2.2.2.2.2.1)) false) fun r38 =>
 some (y33.1, (y33.2.1, ((), (y33.2.2.2.1, (y33.2.2.2.2.1, (y33.2.2.2.2.2.1, (y33.2.2.2.2.2.2.1, (y33.2.2.2.2.2.2.2.1, (y33.2.2.2.2.2.2.2.2.1, (y33.2.2.2.2.2.2.2.2.2.1, (r38.2.1, ())))))))))))))
 else
 bif (decide ((y33.2.1.length : Int) > (0 : Int))) then
 (Option.bind (lk y33.2.1 (0 : Int)) fun x39 =>
 (Option.bind (kf false (decide (x39.1 ≤ y33.2.2.2.2.2.2.1))) fun r40 =>
 some (y33.1, (y33.2.1, ((), (y33.2.2.2.1, (y33.2.2.2.2.1, (y33.2.2.2.2.2.1, (y33.2.2.2.2.2.2.1, (y33.2.2.2.2.2.2.2.1, (y33.2.2.2.2.2.2.2.2.1, (y33.2.2.2.2.2.2.2.2.2.1, (r40.2.1, ())))))))))))))
 else
 (Option.bind (kf false false) fun r41 =>
 some (y33.1, (y33.2.1, ((), (y33.2.2.2.1, (y33.2.2.2.2.1, (y33.2.2.2.2.2.1, (y33.2.2.2.2.2.2.1, (y33.2.2.2.2.2.2.2.1, (y33.2.2.2.2.2.2.2.2.1, (y33.2.2.2.2.2.2.2.2.2.1, (r41.2.1, ()))))))))))))) fun y42 =>
 bif y42.2.2.2.2.2.2.2.2.2.2.1 then
 (Option.bind (lk y42.2.2.2.1 (IntKind.i64.wrap (y42.2.2.2.2.2.1 + (1 : Int)))) fun _x43 =>
 (Option.bind (lk y42.2.2.2.1 (IntKind.i64.wrap (y42.2.2.2.2.2.1 + (1 : Int)))) fun x44 =>
 bif (roomOk (y42.2.2.2.2.1.length + [(y42.2.2.2.2.2.2.1, (IntKind.i32.wrap (x44 - (1 : Int))))].length) 8) then
 let l45 := (y42.2.2.2.2.1 ++ [(y42.2.2.2.2.2.2.1, (IntKind.i32.wrap (x44 - (1 : Int))))])
 some (.inl (y42.1, (y42.2.1, ((), (y42.2.2.2.1, (l45, (y42.2.2.2.2.2.2.2.1, (y42.2.2.2.2.2.2.2.2.1, ((IntKind.i64.wrap (y42.2.2.2.2.2.2.2.2.2.1 + (1 : Int))), ())))))))))
 else none))
 else
 some (.inl (y42.1, (y42.2.1, ((), (y42.2.2.2.1, (y42.2.2.2.2.1, (y42.2.2.2.2.2.2.2.1, (y42.2.2.2.2.2.2.2.2.1, ((IntKind.i64.wrap (y42.2.2.2.2.2.2.2.2.2.1 + (1 : Int))), ())))))))))))))
 else none
 else
 some (.inr (a10, ()))
def runG (kf : Bool → Bool → Option (Unit × (Bool × Unit))) (p1 : List (Int × Int)) (p2 : List (Int × Int)) : Option (Unit × (List (Int × Int) × Unit)) :=
 (Option.bind (rNorm p1) fun r1 =>
 (Option.bind (rNorm p2) fun r2 =>
 (Option.bind (show Option (List (Int × Int) × (List (Int × Int) × (Unit × (List Int × Unit)))) from
 (Option.bind (concat [r1.2.1, r2.2.1]) fun r4 =>
 (Option.bind (iterN (fun x => runG_s6 kf x.1 x.2.1 x.2.2.2.1 x.2.2.2.2.1 x.2.2.2.2.2.1 x.2.2.2.2.2.2.1) fuN (r1.2.1, (r2.2.1, ((), ([(0 : Int), (1114112 : Int)], (r4.2.1, ((r4.2.1.length : Int), ((0 : Int), ())))))))) fun y9 =>
 some (y9.1, (y9.2.1, ((), (y9.2.2.2.1, ()))))))) fun y10 =>
 (Option.bind (sortI y10.2.2.2.1) fun r11 =>
 (Option.bind (compactI r11.1) fun r12 =>
 (Option.bind (show Option (List (Int × Int) × Unit) from
 bif (inB (0 : Int) (IntKind.i64.wrap ((r12.2.1.length : Int) - (1 : Int))) r12.2.1.length) then
 let v14 := ((IntKind.i64.wrap ((r12.2.1.length : Int) - (1 : Int))) - (0 : Int)).toNat
 (Option.bind (iterN (fun x => runG_s16 kf x.1 x.2.1 x.2.2.2.1 x.2.2.2.2.1 x.2.2.2.2.2.1 x.2.2.2.2.2.2.1 x.2.2.2.2.2.2.2.1) fuN (y10.1, (y10.2.1, ((), (r12.2.1, (([] : List (Int × Int)), (((0 : Int).toNat, v14), ((v14 : Int), ((0 : Int), ()))))))))) fun y46 =>
 some (y46.1, ()))
 else none) fun y47 =>
 (Option.bind (rNorm y47.1) fun r48 =>
 some ((), (r48.2.1, ())))))))))
theorem runU_is (a b : List (Int × Int)) : runU a b = runG uF a b := rfl
theorem runM_is (a b : List (Int × Int)) : runM a b = runG mF a b := rfl
theorem runD_is (a b : List (Int × Int)) : runD a b = runG dF a b := rfl
theorem roomK {n k : Nat} (hk : k ≤ 64) (h : n ≤ 1000000000) : roomOk n k = true := by
  unfold roomOk
  simp only [decide_eq_true_eq]
  have : n * k ≤ 1000000000 * 64 := Nat.mul_le_mul h hk
  omega
theorem cut_tail {α : Type} {r : α} {t : List α} : cut (r :: t) (1 : Int) ((r :: t).length : Int) = t := by
  simp [cut]
theorem inB_tail {α : Type} {r : α} {t : List α} : inB (1 : Int) ((r :: t).length : Int) (r :: t).length = true := by
  simp [inB]; omega
theorem grow_is (n : Nat) (h : n ≤ 100000000) : grow ((n : Nat) : Int) = some ((), ([], ())) := by
  have h0 : ¬ ((n : Nat) : Int) < 0 := by omega
  have e1 : IntKind.i64.wrap ((0 : Int) - 0) = 0 := by decide
  have e2 : IntKind.i64.wrap (((n : Nat) : Int) - 0) = ((n : Nat) : Int) := by rw [wrap64] <;> omega
  by_cases hn : n = 0
  ·subst hn; rfl
  ·have h1 : ((n : Nat) : Int) > 0 := by omega
   have h2 : inB (0 : Int) (0 : Int) 0 = true := rfl
   have h3 : inB (0 : Int) (0 : Int) (List.replicate (Int.toNat ((n : Nat) : Int)) ((0 : Int), (0 : Int))).length = true := by simp [inB]
   have h4 : decide (0 ≤ ((n : Nat) : Int)) = true := by simp
   have h5 : roomOk (Int.toNat ((n : Nat) : Int)) 8 = true := roomK (by decide) (by simp; omega)
   simp only [grow, h0, decide_false, cond_false, Option.bind_some, e1, e2, h1, decide_true, cond_true, h2, h3, h4, h5, Bool.and_true]
   rfl
theorem concat_is (a b : List Rg) (ha : a.length ≤ 10000000) (hb : b.length ≤ 10000000) : concat [a, b] = some ((), (a ++ b, ())) := by
  obtain ⟨n, hn⟩ : ∃ n, fuN = n + 3 := ⟨fuN - 3, by have := fuN_le; omega⟩
  have w1 : IntKind.i64.wrap ((0 : Int) + (a.length : Int)) = (a.length : Int) := by rw [wrap64] <;> omega
  have w2 : IntKind.i64.wrap ((a.length : Int) + (b.length : Int)) = ((a.length + b.length : Nat) : Int) := by rw [wrap64] <;> omega
  have n1 : ¬ (a.length : Int) < 0 := by omega
  have n2 : ¬ ((a.length + b.length : Nat) : Int) < 0 := by omega
  have i1 : IntKind.i64.wrap ((0 : Int) + 1) = 1 := by decide
  have i2 : IntKind.i64.wrap ((1 : Int) + 1) = 2 := by decide
  have l0 : lk [a, b] (0 : Int) = some a := rfl
  have l1 : lk [a, b] (1 : Int) = some b := rfl
  have hl : (([a, b] : List (List Rg)).length : Int) = 2 := rfl
  have d0 : decide ((0 : Int) < 2) = true := rfl
  have d1 : decide ((1 : Int) < 2) = true := rfl
  have d2 : decide ((2 : Int) < 2) = false := rfl
  have r1 : roomOk (([] : List Rg).length + a.length) 8 = true := roomK (by decide) (by simp; omega)
  have r2 : roomOk (([] ++ a : List Rg).length + b.length) 8 = true := roomK (by decide) (by simp; omega)
  have A : iterN (fun x => concat_s3 x.1 x.2.1 x.2.2.1 x.2.2.2.1 x.2.2.2.2.1) fuN ([a, b], ((0 : Int), ([a, b], ((([a, b] : List (List Rg)).length : Int), ((0 : Int), ()))))) = some ([a, b], (((a.length + b.length : Nat) : Int), ())) := by
   rw [hn, hl]
   refine (iterN_inl (y := ([a, b], ((a.length : Int), ([a, b], ((2 : Int), ((1 : Int), ())))))) ?_).trans ?_
   ·simp only [concat_s3, d0, cond_true, l0, Option.bind_some, w1, n1, decide_false, cond_false, i1]
   ·refine (iterN_inl (y := ([a, b], (((a.length + b.length : Nat) : Int), ([a, b], ((2 : Int), ((2 : Int), ())))))) ?_).trans ?_
    ·simp only [concat_s3, d1, cond_true, l1, Option.bind_some, w2, n2, decide_false, cond_false, i2]
    ·refine iterN_inr ?_
     simp only [concat_s3, d2, cond_false]
  have B : iterN (fun x => concat_s10 x.1 x.2.1 x.2.2.1 x.2.2.2.1) fuN (([] : List Rg), ([a, b], ((([a, b] : List (List Rg)).length : Int), ((0 : Int), ())))) = some (a ++ b, ()) := by
   rw [hn, hl]
   refine (iterN_inl (y := (([] ++ a : List Rg), ([a, b], ((2 : Int), ((1 : Int), ()))))) ?_).trans ?_
   ·simp only [concat_s10, d0, cond_true, l0, Option.bind_some, r1, i1]
   ·refine (iterN_inl (y := ((([] ++ a) ++ b : List Rg), ([a, b], ((2 : Int), ((2 : Int), ()))))) ?_).trans ?_
    ·simp only [concat_s10, d1, cond_true, l1, Option.bind_some, r2, i2]
    ·refine iterN_inr ?_
     simp only [concat_s10, d2, cond_false]
     rfl
  simp only [concat, A, Option.bind_some, grow_is (a.length + b.length) (by omega), B]
def edgesOf : List Rg → List Int
  | [] => []
  | r :: l => r.1 :: (r.2 + 1) :: edgesOf l
theorem edgesOf_length : ∀ l : List Rg, (edgesOf l).length = 2 * l.length
  | [] => rfl
  | r :: l => by simp only [edgesOf, List.length_cons, edgesOf_length l]; omega
theorem mem_edgesOf {l : List Rg} {x : Int} : x ∈ edgesOf l ↔ ∃ r ∈ l, x = r.1 ∨ x = r.2 + 1 := by
  induction l with
  | nil => simp [edgesOf]
  | cons r l ih => simp [edgesOf, ih, or_assoc]
theorem edges_loop {kf : Bool → Bool → Option (Unit × (Bool × Unit))} (A B : List Rg) : ∀ (rest pre : List Rg) (g : List Int) (n : Nat), pre.length + rest.length ≤ 100000000 → g.length + 2 * rest.length ≤ 100000000 → (∀ r ∈ rest, r.2 ≤ 1114111 ∧ 0 ≤ r.2) → rest.length < n →
   iterN (fun x => runG_s6 kf x.1 x.2.1 x.2.2.2.1 x.2.2.2.2.1 x.2.2.2.2.2.1 x.2.2.2.2.2.2.1) n (A, (B, ((), (g, (pre ++ rest, (((pre ++ rest).length : Int), (((pre.length : Nat) : Int), ()))))))) =
    some (A, (B, ((), (g ++ edgesOf rest, ())))) := by
  intro rest
  induction rest with
  | nil =>
   intro pre g n h1 h2 hv hn
   obtain ⟨n, rfl⟩ := succ_of hn
   refine iterN_inr ?_
   simp [runG_s6, edgesOf]
  | cons r rest ih =>
   intro pre g n h1 h2 hv hn
   simp only [List.length_cons] at h1 h2 hn
   obtain ⟨n, rfl⟩ := succ_of hn
   have hlt : ((pre.length : Nat) : Int) < ((pre ++ r :: rest).length : Int) := lt_mid
   have ew : IntKind.i64.wrap (((pre.length : Nat) : Int) + 1) = (((pre ++ [r]).length : Nat) : Int) := w_mid (by omega)
   have hr := hv r (by simp)
   have e1 : IntKind.i32.wrap (r.2 + 1) = r.2 + 1 := wrap32 (by omega) (by omega)
   have hrm : roomOk (g.length + [r.1, r.2 + 1].length) 4 = true := roomK (by decide) (by simp; omega)
   have hs := ih (pre ++ [r]) (g ++ [r.1, r.2 + 1]) n (by simp; omega) (by simp; omega) (fun q hq => hv q (by simp [hq])) (by omega)
   rw [← app_mid] at hs
   have e : (g ++ [r.1, r.2 + 1]) ++ edgesOf rest = g ++ edgesOf (r :: rest) := by simp [edgesOf]
   rw [e] at hs
   refine (iterN_inl ?_).trans hs
   simp only [runG_s6, hlt, decide_true, cond_true, lk_mid, Option.bind_some, e1, hrm, ew]
def dropL (lo : Int) : List Rg → List Rg
  | [] => []
  | r :: l => if r.2 < lo then dropL lo l else r :: l
theorem dropL_length (lo : Int) : ∀ l : List Rg, (dropL lo l).length ≤ l.length
  | [] => Nat.le_refl _
  | r :: l => by
   simp only [dropL]
   split
   ·have := dropL_length lo l; simp only [List.length_cons]; omega
   ·exact Nat.le_refl _
theorem dropA_loop {kf : Bool → Bool → Option (Unit × (Bool × Unit))} (b : List Rg) (i lo : Int) (v : Nat × Nat) (k j : Int) (E : List Int) (o : List Rg) : ∀ (a : List Rg) (n : Nat), a.length < n →
   iterN (fun x => runG_s20 kf x.1 x.2.1 x.2.2.2.1 x.2.2.2.2.1 x.2.2.2.2.2.1 x.2.2.2.2.2.2.1 x.2.2.2.2.2.2.2.1 x.2.2.2.2.2.2.2.2.1 x.2.2.2.2.2.2.2.2.2.1) n (a, (b, ((), (E, (o, (i, (lo, (v, (k, (j, ())))))))))) =
    some (dropL lo a, (b, ((), (E, (o, (i, (lo, (v, (k, (j, ())))))))))) := by
  intro a
  induction a with
  | nil =>
   intro n hn
   obtain ⟨n, rfl⟩ := succ_of hn
   refine iterN_inr ?_
   rfl
  | cons r a ih =>
   intro n hn
   simp only [List.length_cons] at hn
   obtain ⟨n, rfl⟩ := succ_of hn
   have h0 : ((r :: a).length : Int) > 0 := by simp
   have hl : lk (r :: a) (0 : Int) = some r := rfl
   simp only [dropL]
   by_cases hc : r.2 < lo
   ·rw [if_pos hc]
    refine (iterN_inl ?_).trans (ih n (by omega))
    simp only [runG_s20, h0, decide_true, cond_true, hl, Option.bind_some, hc, inB_tail, cut_tail]
   ·rw [if_neg hc]
    refine iterN_inr ?_
    simp only [runG_s20, h0, decide_true, decide_false, cond_true, cond_false, hl, Option.bind_some, hc]
theorem dropB_loop {kf : Bool → Bool → Option (Unit × (Bool × Unit))} (a : List Rg) (i lo : Int) (v : Nat × Nat) (k j : Int) (E : List Int) (o : List Rg) : ∀ (b : List Rg) (n : Nat), b.length < n →
   iterN (fun x => runG_s28 kf x.1 x.2.1 x.2.2.2.1 x.2.2.2.2.1 x.2.2.2.2.2.1 x.2.2.2.2.2.2.1 x.2.2.2.2.2.2.2.1 x.2.2.2.2.2.2.2.2.1 x.2.2.2.2.2.2.2.2.2.1) n (a, (b, ((), (E, (o, (i, (lo, (v, (k, (j, ())))))))))) =
    some (a, (dropL lo b, ((), (E, (o, (i, (lo, (v, (k, (j, ())))))))))) := by
  intro b
  induction b with
  | nil =>
   intro n hn
   obtain ⟨n, rfl⟩ := succ_of hn
   refine iterN_inr ?_
   rfl
  | cons r b ih =>
   intro n hn
   simp only [List.length_cons] at hn
   obtain ⟨n, rfl⟩ := succ_of hn
   have h0 : ((r :: b).length : Int) > 0 := by simp
   have hl : lk (r :: b) (0 : Int) = some r := rfl
   simp only [dropL]
   by_cases hc : r.2 < lo
   ·rw [if_pos hc]
    refine (iterN_inl ?_).trans (ih n (by omega))
    simp only [runG_s28, h0, decide_true, cond_true, hl, Option.bind_some, hc, inB_tail, cut_tail]
   ·rw [if_neg hc]
    refine iterN_inr ?_
    simp only [runG_s28, h0, decide_true, decide_false, cond_true, cond_false, hl, Option.bind_some, hc]
def fst? (lo : Int) : List Rg → Bool
  | [] => false
  | r :: _ => decide (r.1 ≤ lo)
def sweepL (f : Bool → Bool → Bool) : List Rg → List Rg → List Int → List Rg
  | a, b, lo :: hi :: E => (if f (fst? lo (dropL lo a)) (fst? lo (dropL lo b)) then [(lo, hi - 1)] else []) ++ sweepL f (dropL lo a) (dropL lo b) (hi :: E)
  | _, _, _ => []
theorem sweep_loop {kf : Bool → Bool → Option (Unit × (Bool × Unit))} {f : Bool → Bool → Bool} (hk : ∀ x y, kf x y = some ((), (f x y, ()))) (E : List Int) (hE : E.length ≤ 100000000) (hv : ∀ x ∈ E, 0 ≤ x ∧ x ≤ 1114112) :
   ∀ (rest pre : List Int) (last : Int) (a b o : List Rg) (n : Nat), E = pre ++ rest ++ [last] → o.length + rest.length ≤ 200000000 → a.length ≤ 10000000 → b.length ≤ 10000000 → rest.length < n →
   iterN (fun x => runG_s16 kf x.1 x.2.1 x.2.2.2.1 x.2.2.2.2.1 x.2.2.2.2.2.1 x.2.2.2.2.2.2.1 x.2.2.2.2.2.2.2.1) n (a, (b, ((), (E, (o, (((0, E.length - 1) : Nat × Nat), (((E.length - 1 : Nat) : Int), (((pre.length : Nat) : Int), ())))))))) =
    some (o ++ sweepL f a b (rest ++ [last]), ()) := by
  intro rest
  induction rest with
  | nil =>
   intro pre last a b o n he h1 ha hb hn
   obtain ⟨n, rfl⟩ := succ_of hn
   have hl : E.length = pre.length + 1 := by rw [he]; simp
   have hlt : ¬ ((pre.length : Nat) : Int) < ((E.length - 1 : Nat) : Int) := by omega
   refine iterN_inr ?_
   simp only [runG_s16, hlt, decide_false, cond_false, List.nil_append, sweepL, List.append_nil]
  | cons lo rest ih =>
   intro pre last a b o n he h1 ha hb hn
   simp only [List.length_cons] at h1 hn
   obtain ⟨n, rfl⟩ := succ_of hn
   have hl : E.length = pre.length + rest.length + 2 := by rw [he]; simp; omega
   have hlt : ((pre.length : Nat) : Int) < ((E.length - 1 : Nat) : Int) := by omega
   have hin : inR ((pre.length : Nat) : Int) (E.length - 1) = true := by
    simp only [inR, Bool.and_eq_true, decide_eq_true_eq]; omega
   have hpl : plusI 0 ((pre.length : Nat) : Int) = ((pre.length : Nat) : Int) := by simp [plusI]
   have hlk : lk E ((pre.length : Nat) : Int) = some lo := by rw [he, List.append_assoc]; exact lk_mid
   obtain ⟨hi, more, hm⟩ : ∃ hi more, rest ++ [last] = hi :: more := by cases rest with | nil => exact ⟨last, [], rfl⟩ | cons x r => exact ⟨x, r ++ [last], rfl⟩
   have he2 : E = (pre ++ [lo]) ++ hi :: more := by rw [he, List.append_assoc, List.cons_append, hm]; simp
   have ew : IntKind.i64.wrap (((pre.length : Nat) : Int) + 1) = (((pre ++ [lo]).length : Nat) : Int) := w_mid (by omega)
   have hlk2 : lk E (((pre ++ [lo]).length : Nat) : Int) = some hi := by rw [he2]; exact lk_mid
   have hhi := hv hi (by rw [he2]; simp)
   have ehi : IntKind.i32.wrap (hi - 1) = hi - 1 := wrap32 (by omega) (by omega)
   have hA := fun b i v k j E o => dropA_loop (kf := kf) b i lo v k j E o a fuN (by have := fuN_le; omega)
   have hB := fun a i v k j E o => dropB_loop (kf := kf) a i lo v k j E o b fuN (by have := fuN_le; omega)
   have ha' := dropL_length lo a
   have hb' := dropL_length lo b
   have hsw : sweepL f a b (lo :: rest ++ [last]) = (if f (fst? lo (dropL lo a)) (fst? lo (dropL lo b)) then [(lo, hi - 1)] else []) ++ sweepL f (dropL lo a) (dropL lo b) (rest ++ [last]) := by
    rw [List.cons_append, hm]; rfl
   rw [hsw]
   have hrm : roomOk (o.length + [(lo, hi - 1)].length) 8 = true := room8 (by simp; omega)
   have step : runG_s16 kf a b E o ((0, E.length - 1) : Nat × Nat) ((E.length - 1 : Nat) : Int) ((pre.length : Nat) : Int) =
     some (.inl (dropL lo a, (dropL lo b, ((), (E, (o ++ (if f (fst? lo (dropL lo a)) (fst? lo (dropL lo b)) then [(lo, hi - 1)] else []), (((0, E.length - 1) : Nat × Nat), (((E.length - 1 : Nat) : Int), ((((pre ++ [lo]).length : Nat) : Int), ()))))))))) := by
    generalize hda : dropL lo a = a' at *
    generalize hdb : dropL lo b = b' at *
    have fin : ∀ (x y : Bool), x = fst? lo a' → y = fst? lo b' → True := fun _ _ _ _ => trivial
    cases a' with
    | nil =>
     have h0 : ¬ ((([] : List Rg).length : Nat) : Int) > 0 := by simp
     cases b' with
     | nil =>
      cases hf : f false false <;>
       simp only [runG_s16, hlt, decide_true, decide_false, cond_true, cond_false, hin, hpl, hlk, Option.bind_some, hA, hB, h0, hk, fst?, hf, ew, hlk2, ehi, hrm, if_true, Bool.false_eq_true, if_false, List.append_nil]
     | cons s b' =>
      have h0' : (((s :: b').length : Nat) : Int) > 0 := by simp
      have hl' : lk (s :: b') (0 : Int) = some s := rfl
      cases hf : f false (decide (s.1 ≤ lo)) <;>
       simp only [runG_s16, hlt, decide_true, decide_false, cond_true, cond_false, hin, hpl, hlk, Option.bind_some, hA, hB, h0, h0', hl', hk, fst?, hf, ew, hlk2, ehi, hrm, if_true, Bool.false_eq_true, if_false, List.append_nil]
    | cons r a' =>
     have h0 : (((r :: a').length : Nat) : Int) > 0 := by simp
     have hl0 : lk (r :: a') (0 : Int) = some r := rfl
     cases b' with
     | nil =>
      have h0' : ¬ ((([] : List Rg).length : Nat) : Int) > 0 := by simp
      cases hf : f (decide (r.1 ≤ lo)) false <;>
       simp only [runG_s16, hlt, decide_true, decide_false, cond_true, cond_false, hin, hpl, hlk, Option.bind_some, hA, hB, h0, h0', hl0, hk, fst?, hf, ew, hlk2, ehi, hrm, if_true, Bool.false_eq_true, if_false, List.append_nil]
     | cons s b' =>
      have h0' : (((s :: b').length : Nat) : Int) > 0 := by simp
      have hl' : lk (s :: b') (0 : Int) = some s := rfl
      cases hf : f (decide (r.1 ≤ lo)) (decide (s.1 ≤ lo)) <;>
       simp only [runG_s16, hlt, decide_true, cond_true, cond_false, hin, hpl, hlk, Option.bind_some, hA, hB, h0, h0', hl0, hl', hk, fst?, hf, ew, hlk2, ehi, hrm, if_true, Bool.false_eq_true, if_false, List.append_nil]
   have hs := ih (pre ++ [lo]) last (dropL lo a) (dropL lo b) (o ++ (if f (fst? lo (dropL lo a)) (fst? lo (dropL lo b)) then [(lo, hi - 1)] else [])) n (by rw [he]; simp) (by
    rw [List.length_append]; split <;> simp <;> omega) (by omega) (by omega) (by omega)
   rw [List.append_assoc] at hs
   exact (iterN_inl step).trans hs
def ddt (u : Int) : List Int → List Int
  | [] => []
  | r :: l => if r = u then ddt u l else r :: ddt r l
def cpt : List Int → List Int
  | [] => []
  | x :: l => x :: ddt x l
theorem ddt_length : ∀ (l : List Int) (u : Int), (ddt u l).length ≤ l.length
  | [], _ => Nat.le_refl _
  | r :: l, u => by
   simp only [ddt]
   split
   ·have := ddt_length l u; simp only [List.length_cons]; omega
   ·have := ddt_length l r; simp only [List.length_cons]; omega
theorem lk_idx {l : List Int} {i : Nat} {x : Int} (h : l[i]? = some x) : lk l (i : Int) = some x := by
  unfold lk
  rw [if_pos (by omega)]
  simpa using h
theorem phase2 (start L : Nat) : ∀ (rest : List Int) (u : Int) (W M : List Int) (k2 n : Nat), W.length + M.length + 1 + rest.length = start + L → start + k2 = W.length + M.length + 1 → start + L ≤ 200000000 → 0 < k2 → rest.length < n →
   ∃ g, iterN (fun x => compactI_s14 x.1 x.2.1 x.2.2.1 x.2.2.2.1) n (W ++ M ++ u :: rest, (((W.length : Nat) : Int), (((start, L) : Nat × Nat), (((k2 : Nat) : Int), ())))) = some (g, ((((W ++ ddt u rest).length : Nat) : Int), ())) ∧
    g.take (W ++ ddt u rest).length = W ++ ddt u rest ∧ g.length = start + L := by
  intro rest
  induction rest with
  | nil =>
   intro u W M k2 n h1 h2 h3 h0 hn
   obtain ⟨n, rfl⟩ := succ_of hn
   simp only [List.length_nil] at h1
   have hlt : ¬ ((k2 : Nat) : Int) < ((L : Nat) : Int) := by omega
   refine ⟨W ++ M ++ [u], iterN_inr ?_, by simp [ddt], by simp; omega⟩
   simp only [compactI_s14, hlt, decide_false, cond_false, ddt, List.append_nil, Option.bind_some]
  | cons r rest ih =>
   intro u W M k2 n h1 h2 h3 h0 hn
   simp only [List.length_cons] at h1 hn
   obtain ⟨n, rfl⟩ := succ_of hn
   have hlt : ((k2 : Nat) : Int) < ((L : Nat) : Int) := by omega
   have i1 : inR ((k2 : Nat) : Int) L = true := by simp only [inR, Bool.and_eq_true, decide_eq_true_eq]; omega
   have w1 : IntKind.i64.wrap (((k2 : Nat) : Int) - 1) = ((k2 - 1 : Nat) : Int) := w_pred' h0 (by omega)
   have i2 : inR ((k2 - 1 : Nat) : Int) L = true := by simp only [inR, Bool.and_eq_true, decide_eq_true_eq]; omega
   have p1 : plusI start ((k2 : Nat) : Int) = ((W.length + M.length + 1 : Nat) : Int) := by simp only [plusI]; omega
   have p2 : plusI start ((k2 - 1 : Nat) : Int) = ((W.length + M.length : Nat) : Int) := by simp only [plusI]; omega
   have l1 : lk (W ++ M ++ u :: r :: rest) ((W.length + M.length + 1 : Nat) : Int) = some r := lk_idx (by
    rw [List.getElem?_append_right (by simp)]; simp)
   have l2 : lk (W ++ M ++ u :: r :: rest) ((W.length + M.length : Nat) : Int) = some u := lk_idx (by
    rw [List.getElem?_append_right (by simp)]; simp)
   have w2 : IntKind.i64.wrap (((k2 : Nat) : Int) + 1) = ((k2 + 1 : Nat) : Int) := w_succ (by omega)
   by_cases hc : r = u
   ·subst hc
    obtain ⟨g, g1, g2, g3⟩ := ih r W (M ++ [r]) (k2 + 1) n (by simp; omega) (by simp; omega) h3 (by omega) (by omega)
    have e : W ++ (M ++ [r]) ++ r :: rest = W ++ M ++ r :: r :: rest := by simp
    rw [e] at g1
    have hd : ddt r (r :: rest) = ddt r rest := by simp [ddt]
    rw [hd]
    refine ⟨g, (iterN_inl ?_).trans g1, g2, g3⟩
    have hb : (r != r) = false := by simp
    simp only [compactI_s14, hlt, decide_true, cond_true, cond_false, i1, i2, w1, p1, p2, l1, l2, Option.bind_some, hb, w2]
   ·have hd : ddt u (r :: rest) = r :: ddt r rest := by simp [ddt, hc]
    rw [hd]
    obtain ⟨h, T, hT⟩ : ∃ h T, M ++ [u] = h :: T := by cases M with | nil => exact ⟨u, [], rfl⟩ | cons m M => exact ⟨m, M ++ [u], rfl⟩
    have hTl : T.length = M.length := by have := congrArg List.length hT; simp at this; omega
    have eg : W ++ M ++ u :: r :: rest = W ++ h :: (T ++ r :: rest) := by
     rw [show W ++ M ++ u :: r :: rest = W ++ ((M ++ [u]) ++ r :: rest) by simp, hT]; simp
    have l3 : lk (W ++ M ++ u :: r :: rest) ((W.length : Nat) : Int) = some h := by rw [eg]; exact lk_mid
    have hset : (W ++ M ++ u :: r :: rest).set ((W.length : Nat) : Int).toNat r = (W ++ [r]) ++ T ++ r :: rest := by
     rw [eg, Int.toNat_natCast, List.set_append_right _ _ (Nat.le_refl _)]; simp
    obtain ⟨g, g1, g2, g3⟩ := ih r (W ++ [r]) T (k2 + 1) n (by simp; omega) (by simp; omega) h3 (by omega) (by omega)
    have e2 : (W ++ [r]) ++ ddt r rest = W ++ r :: ddt r rest := by simp
    rw [e2] at g1 g2
    refine ⟨g, (iterN_inl ?_).trans g1, g2, g3⟩
    have hb : (r != u) = true := by simp [hc]
    have w3 : IntKind.i64.wrap (((W.length : Nat) : Int) + 1) = (((W ++ [r]).length : Nat) : Int) := w_mid (by omega)
    simp only [compactI_s14, hlt, decide_true, cond_true, i1, i2, w1, p1, p2, l1, l2, l3, Option.bind_some, hb, w2, w3, hset]
theorem phase1 : ∀ (rest : List Int) (p : Int) (pre : List Int) (n : Nat), pre.length + rest.length ≤ 100000000 → rest.length < n →
   ∃ y, iterN (fun x => compactI_s4 x.1 x.2.1) n (pre ++ p :: rest, (((pre.length + 1 : Nat) : Int), ())) = some y ∧
    (y = .inl (pre ++ p :: ddt p rest, ()) ∨ y = .inr (pre ++ p :: ddt p rest, ())) := by
  intro rest
  induction rest with
  | nil =>
   intro p pre n h1 hn
   obtain ⟨n, rfl⟩ := succ_of hn
   have hlt : ¬ ((pre.length + 1 : Nat) : Int) < ((pre ++ [p]).length : Int) := by simp
   refine ⟨_, iterN_inr ?_, .inr rfl⟩
   simp only [compactI_s4, hlt, decide_false, cond_false, ddt, Option.bind_some]
  | cons q rest ih =>
   intro p pre n h1 hn
   simp only [List.length_cons] at h1 hn
   obtain ⟨n, rfl⟩ := succ_of hn
   have hlen : (pre ++ p :: q :: rest).length = pre.length + rest.length + 2 := by simp; omega
   have hlt : ((pre.length + 1 : Nat) : Int) < ((pre ++ p :: q :: rest).length : Int) := by rw [hlen]; omega
   have l1 : lk (pre ++ p :: q :: rest) ((pre.length + 1 : Nat) : Int) = some q := lk_idx (by rw [List.getElem?_append_right (by omega)]; simp)
   have w1 : IntKind.i64.wrap (((pre.length + 1 : Nat) : Int) - 1) = ((pre.length : Nat) : Int) := w_pred (by omega)
   have l2 : lk (pre ++ p :: q :: rest) ((pre.length : Nat) : Int) = some p := lk_mid
   by_cases hc : q = p
   ·subst hc
    have hb : (q == q) = true := by simp
    have hin : inB ((pre.length + 1 : Nat) : Int) ((pre ++ q :: q :: rest).length : Int) (pre ++ q :: q :: rest).length = true := by
     simp only [inB, hlen, Bool.and_eq_true, decide_eq_true_eq]; omega
    have hL : ((((pre ++ q :: q :: rest).length : Nat) : Int) - ((pre.length + 1 : Nat) : Int)).toNat = rest.length + 1 := by rw [hlen]; omega
    obtain ⟨g, g1, g2, g3⟩ := phase2 (pre.length + 1) (rest.length + 1) rest q (pre ++ [q]) [] 1 fuN (by simp; omega) (by simp) (by omega) (by omega) (by have := fuN_le; omega)
    have eg : (pre ++ [q]) ++ [] ++ q :: rest = pre ++ q :: q :: rest := by simp
    rw [eg] at g1
    have ew : (((pre ++ [q]).length : Nat) : Int) = ((pre.length + 1 : Nat) : Int) := by simp
    rw [ew] at g1
    have hd : ddt q (q :: rest) = ddt q rest := by simp [ddt]
    have er : pre ++ q :: ddt q (q :: rest) = (pre ++ [q]) ++ ddt q rest := by rw [hd]; simp
    rw [er]
    generalize hR : (pre ++ [q]) ++ ddt q rest = R at g1 g2 ⊢
    have hRl : R.length ≤ pre.length + 1 + (rest.length + 1) := by
     rw [← hR]; have := ddt_length rest q; simp; omega
    have hin2 : inB ((R.length : Nat) : Int) (g.length : Int) g.length = true := by
     simp only [inB, g3, Bool.and_eq_true, decide_eq_true_eq]; omega
    have hRg : R.length ≤ g.length := by omega
    have hcl : (clrL g R.length (g.length - R.length) (0 : Int)).length = g.length := by simp [clrL]; omega
    have hin3 : inB (0 : Int) ((R.length : Nat) : Int) (clrL g R.length (g.length - R.length) (0 : Int)).length = true := by
     rw [hcl]; simp only [inB, Bool.and_eq_true, decide_eq_true_eq]; omega
    have hfin : (((clrL g R.length (g.length - R.length) (0 : Int))).drop (0 : Int).toNat).take (((R.length : Nat) : Int) - 0).toNat = R := by
     have e1 : (((R.length : Nat) : Int) - 0).toNat = R.length := by omega
     rw [e1]
     simp only [Int.toNat_zero, List.drop_zero, clrL]
     rw [List.append_assoc, List.take_append_of_le_length (by simp [g3]; omega), List.take_take, Nat.min_self]
     exact g2
    have hsub : ((((g.length : Nat) : Int)) - ((R.length : Nat) : Int)).toNat = g.length - R.length := by omega
    refine ⟨_, iterN_inr ?_, .inl rfl⟩
    have hone : ((1 : Nat) : Int) = (1 : Int) := rfl
    rw [hone] at g1
    simp only [compactI_s4, hlt, decide_true, cond_true, l1, w1, l2, Option.bind_some, hb, hin, hL, Int.toNat_natCast, g1, hin2, hsub, hin3, hfin]
   ·have hb : (q == p) = false := by simp [hc]
    have hd : ddt p (q :: rest) = q :: ddt q rest := by simp [ddt, hc]
    obtain ⟨y, h2, h3⟩ := ih q (pre ++ [p]) n (by simp; omega) (by omega)
    rw [← app_mid] at h2
    have w2 : IntKind.i64.wrap (((pre.length + 1 : Nat) : Int) + 1) = (((pre ++ [p]).length + 1 : Nat) : Int) := by rw [len_succ]; exact w_succ (by omega)
    have e : (pre ++ [p]) ++ q :: ddt q rest = pre ++ p :: q :: ddt q rest := by simp
    rw [e] at h3
    rw [hd]
    refine ⟨y, (iterN_inl ?_).trans h2, h3⟩
    simp only [compactI_s4, hlt, decide_true, cond_true, cond_false, l1, w1, l2, Option.bind_some, hb, w2]
theorem compactI_is (l : List Int) (h : l.length ≤ 100000000) : compactI l = some ((), (cpt l, ())) := by
  cases l with
  | nil => rfl
  | cons x l =>
   cases l with
   | nil => rfl
   | cons y l =>
    simp only [List.length_cons] at h
    have hlt : ¬ (((x :: y :: l).length : Nat) : Int) < 2 := by simp; omega
    obtain ⟨z, h1, h2⟩ := phase1 (y :: l) x [] fuN (by simp; omega) (by have := fuN_le; simp; omega)
    have h1' : iterN (fun x => compactI_s4 x.1 x.2.1) fuN (x :: y :: l, ((1 : Int), ())) = some z := h1
    simp only [compactI, hlt, decide_false, cond_false, Option.bind_some, h1']
    rcases h2 with rfl | rfl <;> rfl
theorem ddt_spec : ∀ (l : List Int) (u : Int), (u :: l).Pairwise (· ≤ ·) → (u :: ddt u l).Pairwise (· < ·) ∧ ∀ y, y ∈ u :: ddt u l ↔ y ∈ u :: l
  | [], u, _ => by simp [ddt]
  | r :: l, u, h => by
   obtain ⟨h1, h2⟩ := List.pairwise_cons.1 h
   simp only [ddt]
   split
   ·rename_i e
    subst e
    obtain ⟨h3, h4⟩ := ddt_spec l r h2
    refine ⟨h3, fun y => ?_⟩
    rw [h4]; simp
   ·rename_i e
    obtain ⟨h3, h4⟩ := ddt_spec l r h2
    refine ⟨List.pairwise_cons.2 ⟨fun y hy => ?_, h3⟩, fun y => ?_⟩
    ·have hy' := (h4 y).1 hy
     have hur := h1 r (by simp)
     rcases List.mem_cons.1 hy' with rfl | hy'
     ·omega
     ·have := (List.pairwise_cons.1 h2).1 y hy'
      omega
    ·rw [List.mem_cons, h4]; exact List.mem_cons.symm
theorem cpt_spec {l : List Int} (h : l.Pairwise (· ≤ ·)) : (cpt l).Pairwise (· < ·) ∧ ∀ y, y ∈ cpt l ↔ y ∈ l := by
  cases l with
  | nil => exact ⟨List.Pairwise.nil, fun y => Iff.rfl⟩
  | cons x l => exact ddt_spec l x h
theorem cpt_length (l : List Int) : (cpt l).length ≤ l.length := by
  cases l with
  | nil => exact Nat.le_refl _
  | cons x l => have := ddt_length l x; simp only [cpt, List.length_cons]; omega
def has (l : List Rg) (x : Int) : Bool := l.any fun r => decide (r.1 ≤ x) && decide (x ≤ r.2)
theorem has_iff {l : List Rg} {x : Int} : has l x = true ↔ ∃ r ∈ l, Rm.inR r x := by
  simp [has, Rm.inR]
theorem has_mem {l : List Rg} {x : Int} (h0 : 0 ≤ x) (h1 : x ≤ 1114111) : has l x = true ↔ Mem l x := by
  rw [has_iff]; exact ⟨fun h => ⟨h0, h1, h⟩, fun h => h.2.2⟩
theorem dropL_nrm {lo : Int} : ∀ {l : List Rg} {b : Int}, NrmF b l → NrmF b (dropL lo l)
  | [], _, _ => trivial
  | r :: l, b, h => by
   simp only [dropL]
   split
   ·exact dropL_nrm (h.2.2.2.mono (by have := h.1; have := h.2.1; omega))
   ·exact h
theorem dropL_sub {lo : Int} : ∀ {l : List Rg} {r : Rg}, r ∈ dropL lo l → r ∈ l
  | [], _, h => h
  | q :: l, r, h => by
   simp only [dropL] at h
   split at h
   ·exact List.mem_cons_of_mem _ (dropL_sub h)
   ·exact h
theorem dropL_has {lo : Int} : ∀ (l : List Rg) {x : Int}, lo ≤ x → has (dropL lo l) x = has l x
  | [], _, _ => rfl
  | q :: l, x, h => by
   simp only [dropL]
   split
   ·rename_i hq
    rw [dropL_has l h]
    have : ¬ x ≤ q.2 := by omega
    simp [has, this]
   ·rfl
theorem fst_has {lo hi x b : Int} {l : List Rg} (hn : NrmF b l) (h1 : lo ≤ x) (h2 : x < hi) (he : ∀ r ∈ l, (r.1 ≤ lo ∨ hi ≤ r.1) ∧ (r.2 + 1 ≤ lo ∨ hi ≤ r.2 + 1)) :
   fst? lo (dropL lo l) = has l x := by
  rw [← dropL_has l h1]
  have hd := dropL_nrm (lo := lo) hn
  cases hc : dropL lo l with
  | nil => rfl
  | cons r t =>
   have hlo : ¬ r.2 < lo := by
    clear hd he hn
    induction l with
    | nil => cases hc
    | cons q l ih =>
     simp only [dropL] at hc
     split at hc
     ·exact ih hc
     ·cases hc; assumption
   rw [hc] at hd
   have hr := he r (dropL_sub (by rw [hc]; simp))
   rw [Bool.eq_iff_iff, has_iff]
   simp only [fst?, decide_eq_true_eq]
   constructor
   ·intro h
    exact ⟨r, by simp, by show r.1 ≤ x; omega, by show x ≤ r.2; omega⟩
   ·rintro ⟨q, hq, h3, h4⟩
    have hq' := he q (dropL_sub (by rw [hc]; exact hq))
    have : r.1 ≤ q.1 := by
     rcases List.mem_cons.1 hq with rfl | hq
     ·exact Int.le_refl _
     ·have := NrmF.ge hd.2.2.2 q hq
      have := hd.2.1
      omega
    omega
def lastOf : Int → List Int → Int
  | x, [] => x
  | _, y :: l => lastOf y l
theorem lastOf_ge : ∀ (l : List Int) (x : Int), (x :: l).Pairwise (· < ·) → x ≤ lastOf x l
  | [], x, _ => Int.le_refl _
  | y :: l, x, h => by
   have h1 := (List.pairwise_cons.1 h).1 y (by simp)
   have h2 := lastOf_ge l y (List.pairwise_cons.1 h).2
   simp only [lastOf]; omega
theorem sweep_mem {f : Bool → Bool → Bool} : ∀ (E : List Int) (lo : Int) (a b : List Rg) (u v x : Int), NrmF u a → NrmF v b → (lo :: E).Pairwise (· < ·) →
   (∀ r ∈ a, (r.1 ≤ lo ∨ r.1 ∈ E) ∧ (r.2 + 1 ≤ lo ∨ r.2 + 1 ∈ E)) → (∀ r ∈ b, (r.1 ≤ lo ∨ r.1 ∈ E) ∧ (r.2 + 1 ≤ lo ∨ r.2 + 1 ∈ E)) →
   ((∃ r ∈ sweepL f a b (lo :: E), Rm.inR r x) ↔ (lo ≤ x ∧ x < lastOf lo E ∧ f (has a x) (has b x) = true))
  | [], lo, a, b, u, v, x, ha, hb, hp, ea, eb => by
   simp only [sweepL, lastOf]
   constructor
   ·rintro ⟨r, hr, _⟩; cases hr
   ·intro h; omega
  | hi :: E, lo, a, b, u, v, x, ha, hb, hp, ea, eb => by
   obtain ⟨hp1, hp2⟩ := List.pairwise_cons.1 hp
   have hlh := hp1 hi (by simp)
   have hmin : ∀ y ∈ hi :: E, hi ≤ y := by
    intro y hy
    rcases List.mem_cons.1 hy with rfl | hy
    ·exact Int.le_refl _
    ·exact Int.le_of_lt ((List.pairwise_cons.1 hp2).1 y hy)
   have hlast := lastOf_ge E hi hp2
   have nx : ∀ {l : List Rg}, (∀ r ∈ l, (r.1 ≤ lo ∨ r.1 ∈ hi :: E) ∧ (r.2 + 1 ≤ lo ∨ r.2 + 1 ∈ hi :: E)) → ∀ r ∈ dropL lo l, (r.1 ≤ hi ∨ r.1 ∈ E) ∧ (r.2 + 1 ≤ hi ∨ r.2 + 1 ∈ E) := by
    intro l h r hr
    obtain ⟨h1, h2⟩ := h r (dropL_sub hr)
    constructor
    ·rcases h1 with h1 | h1
     ·left; omega
     ·rcases List.mem_cons.1 h1 with h1 | h1
      ·left; omega
      ·exact .inr h1
    ·rcases h2 with h2 | h2
     ·left; omega
     ·rcases List.mem_cons.1 h2 with h2 | h2
      ·left; omega
      ·exact .inr h2
   have gap : ∀ {l : List Rg}, (∀ r ∈ l, (r.1 ≤ lo ∨ r.1 ∈ hi :: E) ∧ (r.2 + 1 ≤ lo ∨ r.2 + 1 ∈ hi :: E)) → ∀ r ∈ l, (r.1 ≤ lo ∨ hi ≤ r.1) ∧ (r.2 + 1 ≤ lo ∨ hi ≤ r.2 + 1) := by
    intro l h r hr
    obtain ⟨h1, h2⟩ := h r hr
    exact ⟨h1.imp id (hmin _), h2.imp id (hmin _)⟩
   have ih := sweep_mem (f := f) E hi (dropL lo a) (dropL lo b) u v x (dropL_nrm ha) (dropL_nrm hb) hp2 (nx ea) (nx eb)
   have hS : sweepL f a b (lo :: hi :: E) = (if f (fst? lo (dropL lo a)) (fst? lo (dropL lo b)) then [(lo, hi - 1)] else []) ++ sweepL f (dropL lo a) (dropL lo b) (hi :: E) := rfl
   rw [hS]
   simp only [List.mem_append, or_and_right, exists_or]
   rw [ih]
   simp only [lastOf]
   by_cases hx : lo ≤ x
   ·rw [dropL_has a hx, dropL_has b hx]
    by_cases hx2 : x < hi
    ·rw [fst_has ha hx hx2 (gap ea), fst_has hb hx hx2 (gap eb)]
     cases hf : f (has a x) (has b x) with
     | true =>
      simp only [if_true, List.mem_singleton, exists_eq_left, Rm.inR]
      constructor
      ·intro _; exact ⟨hx, by omega, trivial⟩
      ·intro _; left; exact ⟨hx, by omega⟩
     | false => simp
    ·constructor
     ·rintro (⟨r, hr, h3⟩ | h)
      ·exfalso
       split at hr
       ·simp only [List.mem_singleton] at hr
        subst hr
        have := h3.2
        simp only at this
        omega
       ·cases hr
      ·exact ⟨hx, h.2⟩
     ·rintro ⟨_, h3, h4⟩
      exact .inr ⟨by omega, h3, h4⟩
   ·constructor
    ·rintro (⟨r, hr, h3⟩ | h)
     ·exfalso
      split at hr
      ·simp only [List.mem_singleton] at hr
       subst hr
       exact hx h3.1
      ·cases hr
     ·omega
    ·rintro ⟨h, _⟩; exact absurd h hx
def IsOp (f : Bool → Bool → Bool) (a b o : List Rg) : Prop := Nrm o ∧ ∀ x, Mem o x ↔ (0 ≤ x ∧ x ≤ 1114111 ∧ f (has a x) (has b x) = true)
theorem has_norm {a : List Rg} {x : Int} (h0 : 0 ≤ x) (h1 : x ≤ 1114111) : has (norm a) x = has a x := by
  rw [Bool.eq_iff_iff, has_mem h0 h1, has_mem h0 h1]; exact (norm_spec a).2 x
theorem last_mid : ∀ (l : List Int) (x y : Int), lastOf x (l ++ [y]) = y
  | [], x, y => rfl
  | z :: l, x, y => by simp only [List.cons_append, lastOf]; exact last_mid l z y
theorem ends_of {s E : List Int} (hE : E.Pairwise (· < ·)) (hm : ∀ y, y ∈ E ↔ y ∈ s) (h0 : (0 : Int) ∈ s) (h1 : (1114112 : Int) ∈ s) (hb : ∀ y ∈ s, 0 ≤ y ∧ y ≤ 1114112) :
   ∃ M, E = 0 :: (M ++ [1114112]) := by
  cases E with
  | nil => cases (hm 0).2 h0
  | cons e E =>
   have he : e = 0 := by
    have := hb e ((hm e).1 (by simp))
    rcases List.mem_cons.1 ((hm 0).2 h0) with h | h
    ·exact h.symm
    ·have := (List.pairwise_cons.1 hE).1 0 h; omega
   subst he
   rcases List.eq_nil_or_concat E with rfl | ⟨M, z, rfl⟩
   ·have := (hm 1114112).2 h1
    simp at this
   ·refine ⟨M, ?_⟩
    have hz : z = 1114112 := by
     have h2 := hb z ((hm z).1 (by simp))
     have h3 := (hm 1114112).2 h1
     simp only [List.mem_cons, List.mem_append, List.not_mem_nil, or_false, List.concat_eq_append] at h3
     rcases h3 with h3 | h3 | h3
     ·omega
     ·have h4 := (List.pairwise_cons.1 hE).2
      rw [List.concat_eq_append] at h4
      have := (List.pairwise_append.1 h4).2.2 _ h3 z (by simp)
      omega
     ·exact h3.symm
    rw [hz, List.concat_eq_append]
theorem runG_is {kf : Bool → Bool → Option (Unit × (Bool × Unit))} {f : Bool → Bool → Bool} (hk : ∀ x y, kf x y = some ((), (f x y, ()))) (a b : List Rg) (ha : a.length ≤ 10000000) (hb : b.length ≤ 10000000) :
   ∃ o, runG kf a b = some ((), (o, ())) ∧ IsOp f a b o := by
  have e1 := rNorm_eq' a (by omega)
  have e2 := rNorm_eq' b (by omega)
  have la := nrm_len (norm_spec a).1
  have lb := nrm_len (norm_spec b).1
  have e3 := concat_is (norm a) (norm b) (by omega) (by omega)
  have hv : ∀ r ∈ norm a ++ norm b, 0 ≤ r.1 ∧ r.1 ≤ r.2 ∧ r.2 ≤ 1114111 := by
   intro r hr
   rcases List.mem_append.1 hr with hr | hr
   ·exact NrmF.ge (norm_spec a).1 r hr
   ·exact NrmF.ge (norm_spec b).1 r hr
  have e4 := edges_loop (kf := kf) (norm a) (norm b) (norm a ++ norm b) [] [0, 1114112] fuN (by simp; omega) (by simp; omega) (fun r hr => by have := hv r hr; omega) (by have := fuN_le; simp; omega)
  simp only [List.nil_append, List.length_nil] at e4
  generalize hS : [(0 : Int), 1114112] ++ edgesOf (norm a ++ norm b) = S at e4
  have hSl : S.length ≤ 10000000 := by rw [← hS]; simp [edgesOf_length]; omega
  obtain ⟨s, e5, hp, hs⟩ := sortI_spec S (by omega)
  have e6 := compactI_is s (by rw [hp.length_eq]; omega)
  obtain ⟨hE, hm⟩ := cpt_spec hs
  have hEl := cpt_length s
  have hSm : ∀ y, y ∈ S ↔ y = 0 ∨ y = 1114112 ∨ ∃ r ∈ norm a ++ norm b, y = r.1 ∨ y = r.2 + 1 := by
   intro y
   rw [← hS]
   simp only [List.mem_append, List.mem_cons, List.not_mem_nil, or_false, mem_edgesOf, or_assoc]
  have hm' : ∀ y, y ∈ cpt s ↔ y ∈ S := fun y => (hm y).trans hp.mem_iff
  have hSb : ∀ y ∈ S, 0 ≤ y ∧ y ≤ 1114112 := by
   intro y hy
   rcases (hSm y).1 hy with rfl | rfl | ⟨r, hr, h | h⟩
   ·omega
   ·omega
   ·have := hv r hr; omega
   ·have := hv r hr; omega
  obtain ⟨M, hM⟩ := ends_of hE hm' ((hSm 0).2 (.inl rfl)) ((hSm _).2 (.inr (.inl rfl))) hSb
  generalize hEE : cpt s = E at *
  have hEl' : E.length ≤ 10000000 := by rw [hp.length_eq] at hEl; omega
  have hE0 : 0 < E.length := by rw [hM]; simp
  have e7 := sweep_loop hk E (by omega) (fun x hx => hSb x ((hm' x).1 hx)) (0 :: M) [] 1114112 (norm a) (norm b) [] fuN (by rw [hM]; simp) (by
   have : E.length = M.length + 2 := by rw [hM]; simp
   simp; omega) (by omega) (by omega) (by
   have : E.length = M.length + 2 := by rw [hM]; simp
   have := fuN_le; simp; omega)
  simp only [List.nil_append, List.length_nil] at e7
  have hME : 0 :: M ++ [1114112] = E := by rw [hM]; rfl
  rw [hME] at e7
  generalize hW : sweepL f (norm a) (norm b) E = W at e7
  have hWl : W.length ≤ 10000000 := by
   have : ∀ (E : List Int) (a b : List Rg), (sweepL f a b E).length ≤ E.length := by
    intro E
    induction E with
    | nil => intro a b; simp [sweepL]
    | cons lo E ih =>
     intro a b
     cases E with
     | nil => simp [sweepL]
     | cons hi E =>
      simp only [sweepL, List.length_append]
      have := ih (dropL lo a) (dropL lo b)
      simp only [List.length_cons] at this ⊢
      split <;> simp <;> omega
   have := this E (norm a) (norm b)
   rw [hW] at this
   omega
  have e8 := rNorm_eq' W (by omega)
  refine ⟨norm W, ?_, (norm_spec W).1, fun x => ?_⟩
  ·have w1 : IntKind.i64.wrap ((E.length : Int) - (1 : Int)) = ((E.length - 1 : Nat) : Int) := w_pred' hE0 (by omega)
   have i1 : inB (0 : Int) ((E.length - 1 : Nat) : Int) E.length = true := by
    simp only [inB, Bool.and_eq_true, decide_eq_true_eq]; omega
   have v1 : (((E.length - 1 : Nat) : Int) - (0 : Int)).toNat = E.length - 1 := by omega
   have e4' : iterN (fun x => runG_s6 kf x.1 x.2.1 x.2.2.2.1 x.2.2.2.2.1 x.2.2.2.2.2.1 x.2.2.2.2.2.2.1) fuN (norm a, (norm b, ((), ([(0 : Int), (1114112 : Int)], (norm a ++ norm b, (((norm a ++ norm b).length : Int), ((0 : Int), ()))))))) = some (norm a, (norm b, ((), (S, ())))) := e4
   have e7' : iterN (fun x => runG_s16 kf x.1 x.2.1 x.2.2.2.1 x.2.2.2.2.1 x.2.2.2.2.2.1 x.2.2.2.2.2.2.1 x.2.2.2.2.2.2.2.1) fuN (norm a, (norm b, ((), (E, (([] : List (Int × Int)), ((((0 : Int).toNat, E.length - 1) : Nat × Nat), (((E.length - 1 : Nat) : Int), ((0 : Int), ())))))))) = some (W, ()) := e7
   simp only [runG, e1, e2, Option.bind_some, e3, e4', e5, e6, w1, i1, cond_true, v1, e7', e8]
  ·rw [(norm_spec W).2]
   have ed : ∀ l : List Rg, (∀ r ∈ l, r ∈ norm a ++ norm b) → ∀ r ∈ l, (r.1 ≤ 0 ∨ r.1 ∈ M ++ [1114112]) ∧ (r.2 + 1 ≤ 0 ∨ r.2 + 1 ∈ M ++ [1114112]) := by
    intro l hl r hr
    have h1 := (hm' r.1).2 ((hSm r.1).2 (.inr (.inr ⟨r, hl r hr, .inl rfl⟩)))
    have h2 := (hm' (r.2 + 1)).2 ((hSm (r.2 + 1)).2 (.inr (.inr ⟨r, hl r hr, .inr rfl⟩)))
    rw [hM] at h1 h2
    refine ⟨(List.mem_cons.1 h1).imp (fun h => by omega) id, (List.mem_cons.1 h2).imp (fun h => by omega) id⟩
   have hsw := sweep_mem (f := f) (M ++ [1114112]) 0 (norm a) (norm b) 0 0 x (norm_spec a).1 (norm_spec b).1 (by rw [← hM]; exact hE)
    (ed _ fun r hr => List.mem_append_left _ hr) (ed _ fun r hr => List.mem_append_right _ hr)
   rw [← hM, hW, last_mid] at hsw
   constructor
   ·rintro ⟨h0, h1, h2⟩
    have := hsw.1 h2
    rw [has_norm h0 h1, has_norm h0 h1] at this
    exact ⟨h0, h1, this.2.2⟩
   ·rintro ⟨h0, h1, h2⟩
    refine ⟨h0, h1, hsw.2 ⟨h0, by omega, ?_⟩⟩
    rw [has_norm h0 h1, has_norm h0 h1]; exact h2
noncomputable def opS (f : Bool → Bool → Bool) (a b : List Rg) : List Rg := open Classical in if h : ∃ o, IsOp f a b o then Classical.choose h else []
theorem opS_eq {f : Bool → Bool → Bool} {a b o : List Rg} (h : IsOp f a b o) : opS f a b = o := by
  have hex : ∃ o, IsOp f a b o := ⟨o, h⟩
  have e : opS f a b = Classical.choose hex := by unfold opS; rw [dif_pos hex]
  have hc := Classical.choose_spec hex
  rw [e]
  exact unique hc.1 h.1 fun x => by rw [hc.2, h.2]
theorem runG_eq {kf : Bool → Bool → Option (Unit × (Bool × Unit))} {f : Bool → Bool → Bool} (hk : ∀ x y, kf x y = some ((), (f x y, ()))) (a b : List Rg) (ha : a.length ≤ 10000000) (hb : b.length ≤ 10000000) :
   runG kf a b = some ((), (opS f a b, ())) ∧ IsOp f a b (opS f a b) := by
  obtain ⟨o, h1, h2⟩ := runG_is hk a b ha hb
  rw [opS_eq h2]
  exact ⟨h1, h2⟩
def uB (x y : Bool) : Bool := x || y
def mB (x y : Bool) : Bool := x && y
def dB (x y : Bool) : Bool := x && !y
theorem uF_is (x y : Bool) : uF x y = some ((), (uB x y, ())) := by cases x <;> rfl
theorem mF_is (x y : Bool) : mF x y = some ((), (mB x y, ())) := by cases x <;> rfl
theorem dF_is (x y : Bool) : dF x y = some ((), (dB x y, ())) := by cases x <;> rfl
theorem rUnion_is (a b : List Rg) (ha : a.length ≤ 10000000) (hb : b.length ≤ 10000000) : rUnion a b = some ((), (opS uB a b, ())) ∧ IsOp uB a b (opS uB a b) := by
  obtain ⟨h1, h2⟩ := runG_eq uF_is a b ha hb
  exact ⟨by simp only [rUnion, runU_is, h1, Option.bind_some], h2⟩
theorem rMeet_is (a b : List Rg) (ha : a.length ≤ 10000000) (hb : b.length ≤ 10000000) : rMeet a b = some ((), (opS mB a b, ())) ∧ IsOp mB a b (opS mB a b) := by
  obtain ⟨h1, h2⟩ := runG_eq mF_is a b ha hb
  exact ⟨by simp only [rMeet, runM_is, h1, Option.bind_some], h2⟩
theorem rMinus_is (a b : List Rg) (ha : a.length ≤ 10000000) (hb : b.length ≤ 10000000) : rMinus a b = some ((), (opS dB a b, ())) ∧ IsOp dB a b (opS dB a b) := by
  obtain ⟨h1, h2⟩ := runG_eq dF_is a b ha hb
  exact ⟨by simp only [rMinus, runD_is, h1, Option.bind_some], h2⟩
theorem refSame_loop : ∀ (rest rest' pre pre' : List Rg) (n : Nat), pre.length = pre'.length → rest.length = rest'.length → pre.length + rest.length ≤ 100000000 → rest.length < n →
   iterN (fun x => refSame_s4 x.1 x.2.1 x.2.2.1) n (pre ++ rest, (pre' ++ rest', (((pre.length : Nat) : Int), ()))) =
    some (if rest = rest' then .inr () else .inl (false, ())) := by
  intro rest
  induction rest with
  | nil =>
   intro rest' pre pre' n h1 h2 h3 hn
   obtain ⟨n, rfl⟩ := succ_of hn
   have : rest' = [] := List.length_eq_zero_iff.1 (by simpa using h2.symm)
   subst this
   refine iterN_inr ?_
   simp [refSame_s4]
  | cons r rest ih =>
   intro rest' pre pre' n h1 h2 h3 hn
   cases rest' with
   | nil => simp at h2
   | cons r' rest' =>
    simp only [List.length_cons, Nat.add_right_cancel_iff] at h2 h3 hn
    obtain ⟨n, rfl⟩ := succ_of hn
    have hlt : ((pre.length : Nat) : Int) < ((pre ++ r :: rest).length : Int) := lt_mid
    have ew : IntKind.i64.wrap (((pre.length : Nat) : Int) + 1) = (((pre ++ [r]).length : Nat) : Int) := w_mid (by omega)
    have hlk : lk (pre' ++ r' :: rest') ((pre.length : Nat) : Int) = some r' := by rw [h1]; exact lk_mid
    by_cases hc : r = r'
    ·subst hc
     have hs := ih rest' (pre ++ [r]) (pre' ++ [r]) n (by simp [h1]) h2 (by simp; omega) (by omega)
     rw [← app_mid, ← app_mid] at hs
     have e : (r :: rest = r :: rest') ↔ rest = rest' := by simp
     simp only [e]
     refine (iterN_inl ?_).trans hs
     simp only [refSame_s4, hlt, decide_true, cond_true, cond_false, lk_mid, hlk, Option.bind_some, Bool.and_self, Bool.not_true, ew]
    ·have e : ¬ (r :: rest = r' :: rest') := fun h => hc (List.cons.inj h).1
     rw [if_neg e]
     refine iterN_inr ?_
     have hd : (decide (r.1 = r'.1) && decide (r.2 = r'.2)) = false := by
      cases hb : (decide (r.1 = r'.1) && decide (r.2 = r'.2)) with
      | false => rfl
      | true =>
       simp only [Bool.and_eq_true, decide_eq_true_eq] at hb
       exact absurd (Prod.ext hb.1 hb.2) hc
     simp only [refSame_s4, hlt, decide_true, cond_true, lk_mid, hlk, Option.bind_some, hd, Bool.not_false]
theorem refSame_is (a b : List Rg) (h : a.length ≤ 50000000) : refSame a b = some ((), (decide (a = b), ())) := by
  by_cases hl : a.length = b.length
  ·have h1 := refSame_loop a b [] [] fuN rfl hl (by simp; omega) (by have := fuN_le; omega)
   have h1' : iterN (fun x => refSame_s4 x.1 x.2.1 x.2.2.1) fuN (a, (b, ((0 : Int), ()))) = some (if a = b then .inr () else .inl (false, ())) := h1
   have hne : ((a.length : Int) != (b.length : Int)) = false := by simp [hl]
   simp only [refSame, hne, cond_false, Option.bind_some, h1']
   by_cases hab : a = b <;> simp [hab]
  ·have hne : ((a.length : Int) != (b.length : Int)) = true := by simp; omega
   have hab : a ≠ b := fun e => hl (by rw [e])
   simp only [refSame, hne, cond_true, Option.bind_some]
   simp [hab]
theorem refClip_loop : ∀ (rest pre g : List Rg) (n : Nat), pre.length + rest.length ≤ 100000000 → g.length + rest.length ≤ 100000000 → rest.length < n →
   iterN (fun x => refClipped_s2 x.1 x.2.1 x.2.2.1) n (pre ++ rest, (g, (((pre.length : Nat) : Int), ()))) = some (g ++ clipL rest, ()) := by
  intro rest
  induction rest with
  | nil =>
   intro pre g n h1 h2 hn
   obtain ⟨n, rfl⟩ := succ_of hn
   refine iterN_inr ?_
   simp [refClipped_s2, clipL]
  | cons r rest ih =>
   intro pre g n h1 h2 hn
   simp only [List.length_cons] at h1 h2 hn
   obtain ⟨n, rfl⟩ := succ_of hn
   have hlt : ((pre.length : Nat) : Int) < ((pre ++ r :: rest).length : Int) := lt_mid
   have ew : IntKind.i64.wrap (((pre.length : Nat) : Int) + 1) = (((pre ++ [r]).length : Nat) : Int) := w_mid (by omega)
   have one : ∀ x : Rg, lk [x] (0 : Int) = some x := fun x => rfl
   have z0 : (0 : Int).toNat = 0 := rfl
   have s0 : ∀ x y : Rg, [x].set 0 y = [y] := fun x y => rfl
   by_cases hc : (clip1 r).1 ≤ (clip1 r).2
   ·have e : g ++ clipL (r :: rest) = (g ++ [clip1 r]) ++ clipL rest := by
     simp [clipL, hc]
    have hs := ih (pre ++ [r]) (g ++ [clip1 r]) n (by simp; omega) (by simp; omega) (by omega)
    rw [e]
    rw [← app_mid] at hs
    refine (iterN_inl ?_).trans hs
    have hrm : roomOk (g.length + [clip1 r].length) 8 = true := room8 (by simp; omega)
    by_cases h3 : r.1 < 0 <;> by_cases h4 : r.2 > 1114111 <;>
     simp only [clip1, gt_iff_lt, h3, h4, if_true, if_false] at hc hrm ⊢ <;> simp only [gt_iff_lt] at h4 <;>
     simp only [refClipped_s2, hlt, decide_true, decide_false, cond_true, cond_false, lk_mid, Option.bind_some, h3, h4, hc, hrm, ew, gt_iff_lt]
   ·have e : g ++ clipL (r :: rest) = g ++ clipL rest := by
     simp [clipL, hc]
    have hs := ih (pre ++ [r]) g n (by simp; omega) (by omega) (by omega)
    rw [e]
    rw [← app_mid] at hs
    refine (iterN_inl ?_).trans hs
    by_cases h3 : r.1 < 0 <;> by_cases h4 : r.2 > 1114111 <;>
     simp only [clip1, gt_iff_lt, h3, h4, if_true, if_false] at hc ⊢ <;> simp only [gt_iff_lt] at h4 <;>
     simp only [refClipped_s2, hlt, decide_true, decide_false, cond_true, cond_false, lk_mid, Option.bind_some, h3, h4, hc, ew, gt_iff_lt]
theorem refClipped_is (l : List Rg) (h : l.length ≤ 50000000) : refClipped l = some ((), (clipL l, ())) := by
  have h1 := refClip_loop l [] [] fuN (by simp; omega) (by simp; omega) (by have := fuN_le; omega)
  have h1' : iterN (fun x => refClipped_s2 x.1 x.2.1 x.2.2.1) fuN (l, (([] : List (Int × Int)), ((0 : Int), ()))) = some (clipL l, ()) := h1
  simp only [refClipped, h1', Option.bind_some]
def mrg : Nat → List Rg → List Rg → List Rg
  | 0, _, _ => []
  | n + 1, [], [] => []
  | n + 1, x :: a, [] => x :: mrg n a []
  | n + 1, [], y :: b => y :: mrg n [] b
  | n + 1, x :: a, y :: b => if x.1 ≤ y.1 then x :: mrg n a (y :: b) else y :: mrg n (x :: a) b
theorem mrg_loop : ∀ (k : Nat) (ra rb pa pb g : List Rg) (n : Nat), ra.length + rb.length ≤ k → pa.length + ra.length ≤ 100000000 → pb.length + rb.length ≤ 100000000 → g.length + ra.length + rb.length ≤ 300000000 → k < n →
   iterN (fun x => refSorted0_s8 x.1 x.2.1 x.2.2.1 x.2.2.2.1 x.2.2.2.2.1) n (pa ++ ra, (pb ++ rb, (g, (((pa.length : Nat) : Int), (((pb.length : Nat) : Int), ()))))) = some (g ++ mrg k ra rb, ()) := by
  intro k
  induction k with
  | zero =>
   intro ra rb pa pb g n hk h1 h2 h3 hn
   obtain ⟨n, rfl⟩ := succ_of hn
   have e1 : ra = [] := List.length_eq_zero_iff.1 (by omega)
   have e2 : rb = [] := List.length_eq_zero_iff.1 (by omega)
   subst e1; subst e2
   refine iterN_inr ?_
   simp [refSorted0_s8, mrg]
  | succ k ih =>
   intro ra rb pa pb g n hk h1 h2 h3 hn
   obtain ⟨n, rfl⟩ := succ_of (Nat.lt_of_le_of_lt (Nat.zero_le _) hn)
   cases ra with
   | nil =>
    cases rb with
    | nil =>
     refine iterN_inr ?_
     simp [refSorted0_s8, mrg]
    | cons y b =>
     simp only [List.length_cons, List.length_nil] at hk h1 h2 h3
     have na : ¬ ((pa.length : Nat) : Int) < ((pa ++ ([] : List Rg)).length : Int) := by simp
     have lb : ((pb.length : Nat) : Int) < ((pb ++ y :: b).length : Int) := lt_mid
     have nb : (((pb.length : Nat) : Int) == ((pb ++ y :: b).length : Int)) = false := by simp; omega
     have ew : IntKind.i64.wrap (((pb.length : Nat) : Int) + 1) = (((pb ++ [y]).length : Nat) : Int) := w_mid (by omega)
     have hrm : roomOk (g.length + [y].length) 8 = true := room8 (by simp; omega)
     have hs := ih [] b pa (pb ++ [y]) (g ++ [y]) n (by simp; omega) (by simp; omega) (by simp; omega) (by simp; omega) (by omega)
     rw [← app_mid (pre := pb)] at hs
     have e : (g ++ [y]) ++ mrg k [] b = g ++ mrg (k + 1) [] (y :: b) := by simp [mrg]
     rw [e] at hs
     refine (iterN_inl ?_).trans hs
     simp only [refSorted0_s8, na, lb, decide_true, decide_false, cond_true, cond_false, nb, Option.bind_some, lk_mid, hrm, ew]
   | cons x a =>
    simp only [List.length_cons] at hk h1 h3
    have la : ((pa.length : Nat) : Int) < ((pa ++ x :: a).length : Int) := lt_mid
    have ewa : IntKind.i64.wrap (((pa.length : Nat) : Int) + 1) = (((pa ++ [x]).length : Nat) : Int) := w_mid (by omega)
    have hrma : roomOk (g.length + [x].length) 8 = true := room8 (by simp; omega)
    cases rb with
    | nil =>
     have nb : (((pb.length : Nat) : Int) == ((pb ++ ([] : List Rg)).length : Int)) = true := by simp
     have hs := ih a [] (pa ++ [x]) pb (g ++ [x]) n (by simp only [List.length_nil] at hk ⊢; omega) (by simp; omega) h2 (by simp only [List.length_nil, List.length_append, List.length_cons] at h3 ⊢; omega) (by omega)
     rw [← app_mid (pre := pa)] at hs
     have e : (g ++ [x]) ++ mrg k a [] = g ++ mrg (k + 1) (x :: a) [] := by simp [mrg]
     rw [e] at hs
     refine (iterN_inl ?_).trans hs
     simp only [refSorted0_s8, la, decide_true, cond_true, nb, Option.bind_some, lk_mid, hrma, ewa]
    | cons y b =>
     simp only [List.length_cons] at hk h2 h3
     have nb : (((pb.length : Nat) : Int) == ((pb ++ y :: b).length : Int)) = false := by simp; omega
     have ewb : IntKind.i64.wrap (((pb.length : Nat) : Int) + 1) = (((pb ++ [y]).length : Nat) : Int) := w_mid (by omega)
     have hrmb : roomOk (g.length + [y].length) 8 = true := room8 (by simp; omega)
     by_cases hc : x.1 ≤ y.1
     ·have hs := ih a (y :: b) (pa ++ [x]) pb (g ++ [x]) n (by simp; omega) (by simp; omega) (by simp; omega) (by simp; omega) (by omega)
      rw [← app_mid (pre := pa)] at hs
      have e : (g ++ [x]) ++ mrg k a (y :: b) = g ++ mrg (k + 1) (x :: a) (y :: b) := by simp [mrg, hc]
      rw [e] at hs
      refine (iterN_inl ?_).trans hs
      simp only [refSorted0_s8, la, decide_true, cond_true, cond_false, nb, Option.bind_some, lk_mid, hc, hrma, ewa]
     ·have hs := ih (x :: a) b pa (pb ++ [y]) (g ++ [y]) n (by simp; omega) (by simp; omega) (by simp; omega) (by simp; omega) (by omega)
      rw [← app_mid (pre := pb)] at hs
      have e : (g ++ [y]) ++ mrg k (x :: a) b = g ++ mrg (k + 1) (x :: a) (y :: b) := by simp [mrg, hc]
      rw [e] at hs
      refine (iterN_inl ?_).trans hs
      simp only [refSorted0_s8, la, decide_true, decide_false, cond_true, cond_false, nb, Option.bind_some, lk_mid, hc, hrmb, ewb]
theorem mrg_spec : ∀ (k : Nat) (a b : List Rg), a.length + b.length ≤ k → SortedLo a → SortedLo b → (mrg k a b).Perm (a ++ b) ∧ SortedLo (mrg k a b)
  | 0, a, b, h, _, _ => by
   have e1 : a = [] := List.length_eq_zero_iff.1 (by omega)
   have e2 : b = [] := List.length_eq_zero_iff.1 (by omega)
   subst e1; subst e2
   exact ⟨List.Perm.refl _, List.Pairwise.nil⟩
  | k + 1, [], [], h, _, _ => ⟨List.Perm.refl _, List.Pairwise.nil⟩
  | k + 1, x :: a, [], h, ha, hb => by
   obtain ⟨h1, h2⟩ := mrg_spec k a [] (by simp only [List.length_cons, List.length_nil] at h ⊢; omega) (List.pairwise_cons.1 ha).2 hb
   simp only [mrg]
   refine ⟨List.Perm.cons x h1, List.pairwise_cons.2 ⟨fun q hq => ?_, h2⟩⟩
   have := h1.mem_iff.1 hq
   simp at this
   exact (List.pairwise_cons.1 ha).1 q this
  | k + 1, [], y :: b, h, ha, hb => by
   obtain ⟨h1, h2⟩ := mrg_spec k [] b (by simp only [List.length_cons, List.length_nil] at h ⊢; omega) ha (List.pairwise_cons.1 hb).2
   simp only [mrg]
   refine ⟨List.Perm.cons y h1, List.pairwise_cons.2 ⟨fun q hq => ?_, h2⟩⟩
   have := h1.mem_iff.1 hq
   exact (List.pairwise_cons.1 hb).1 q this
  | k + 1, x :: a, y :: b, h, ha, hb => by
   simp only [mrg]
   simp only [List.length_cons] at h
   split
   ·rename_i hc
    obtain ⟨h1, h2⟩ := mrg_spec k a (y :: b) (by simp; omega) (List.pairwise_cons.1 ha).2 hb
    refine ⟨List.Perm.cons x h1, List.pairwise_cons.2 ⟨fun q hq => ?_, h2⟩⟩
    rcases List.mem_append.1 (h1.mem_iff.1 hq) with hq | hq
    ·exact (List.pairwise_cons.1 ha).1 q hq
    ·rcases List.mem_cons.1 hq with rfl | hq
     ·exact hc
     ·exact Int.le_trans hc ((List.pairwise_cons.1 hb).1 q hq)
   ·rename_i hc
    obtain ⟨h1, h2⟩ := mrg_spec k (x :: a) b (by simp; omega) ha (List.pairwise_cons.1 hb).2
    refine ⟨(List.Perm.cons y h1).trans List.perm_middle.symm, List.pairwise_cons.2 ⟨fun q hq => ?_, h2⟩⟩
    rcases List.mem_append.1 (h1.mem_iff.1 hq) with hq | hq
    ·rcases List.mem_cons.1 hq with rfl | hq
     ·show y.1 ≤ q.1; omega
     ·have := (List.pairwise_cons.1 ha).1 q hq; omega
    ·exact (List.pairwise_cons.1 hb).1 q hq
theorem refSortedN_is : ∀ (k : Nat) (l : List Rg), l.length < k → l.length ≤ 50000000 → ∃ s, refSortedN k l = some ((), (s, ())) ∧ s.Perm l ∧ SortedLo s
  | 0, l, h, _ => by omega
  | k + 1, l, h, hl => by
   by_cases h2 : l.length < 2
   ·have h2' : (l.length : Int) < (2 : Int) := by omega
    refine ⟨l, ?_, List.Perm.refl _, ?_⟩
    ·simp only [refSortedN, refSorted0, h2', decide_true, cond_true, Option.bind_some]
    ·match l, h2 with
     | [], _ => exact List.Pairwise.nil
     | [x], _ => exact List.pairwise_singleton _ _
     | x :: y :: l, h2 => simp at h2; omega
   ·have h2' : ¬ (l.length : Int) < (2 : Int) := by omega
    have hq : IntKind.i64.wrap (Int.tdiv (l.length : Int) (2 : Int)) = ((l.length / 2 : Nat) : Int) := by
     rw [wrap64]
     ·exact (Int.ofNat_tdiv _ _).symm
     ·rw [show Int.tdiv (l.length : Int) (2 : Int) = ((l.length / 2 : Nat) : Int) from (Int.ofNat_tdiv _ _).symm]; omega
     ·rw [show Int.tdiv (l.length : Int) (2 : Int) = ((l.length / 2 : Nat) : Int) from (Int.ofNat_tdiv _ _).symm]; omega
    have i1 : inB (0 : Int) ((l.length / 2 : Nat) : Int) l.length = true := by
     simp only [inB, Bool.and_eq_true, decide_eq_true_eq]; omega
    have i2 : inB ((l.length / 2 : Nat) : Int) (l.length : Int) l.length = true := by
     simp only [inB, Bool.and_eq_true, decide_eq_true_eq]; omega
    have c1 : cut l (0 : Int) ((l.length / 2 : Nat) : Int) = l.take (l.length / 2) := by
     have e1 : (((l.length / 2 : Nat) : Int) - (0 : Int)).toNat = l.length / 2 := by omega
     simp only [cut, e1, Int.toNat_zero, List.drop_zero]
    have c2 : cut l ((l.length / 2 : Nat) : Int) (l.length : Int) = l.drop (l.length / 2) := by
     have e1 : ((l.length : Int) - ((l.length / 2 : Nat) : Int)).toNat = l.length - l.length / 2 := by omega
     simp only [cut, Int.toNat_natCast, e1]
     rw [List.take_of_length_le (by simp)]
    obtain ⟨s1, h3, h4, h5⟩ := refSortedN_is k (l.take (l.length / 2)) (by simp; omega) (by simp; omega)
    obtain ⟨s2, h6, h7, h8⟩ := refSortedN_is k (l.drop (l.length / 2)) (by simp; omega) (by simp; omega)
    have l1 := h4.length_eq
    have l2 := h7.length_eq
    simp only [List.length_take, List.length_drop] at l1 l2
    have h9 := mrg_loop (s1.length + s2.length) s1 s2 [] [] [] fuN (Nat.le_refl _) (by simp; omega) (by simp; omega) (by simp; omega) (by have := fuN_le; omega)
    have h9' : iterN (fun x => refSorted0_s8 x.1 x.2.1 x.2.2.1 x.2.2.2.1 x.2.2.2.2.1) fuN (s1, (s2, (([] : List (Int × Int)), ((0 : Int), ((0 : Int), ()))))) = some (mrg (s1.length + s2.length) s1 s2, ()) := h9
    obtain ⟨h10, h11⟩ := mrg_spec (s1.length + s2.length) s1 s2 (Nat.le_refl _) h5 h8
    have n2 : ((2 : Int) != 0) = true := rfl
    refine ⟨_, ?_, h10.trans ?_, h11⟩
    ·simp only [refSortedN, refSorted0, h2', decide_false, cond_false, cond_true, Option.bind_some, n2, hq, i1, i2, c1, c2, h3, h6, h9']
    ·refine (h4.append h7).trans ?_
     rw [List.take_append_drop]
theorem refSorted_is (l : List Rg) (h : l.length ≤ 50000000) : ∃ s, refSorted l = some ((), (s, ())) ∧ s.Perm l ∧ SortedLo s :=
  refSortedN_is (l.length + 1) l (Nat.lt_succ_self _) h
def joinR : Rg → List Rg → Rg × List Rg
  | z, [] => (z, [])
  | z, r :: l => if r.1 ≤ z.2 + 1 then joinR (z.1, if r.2 > z.2 then r.2 else z.2) l else (z, r :: l)
theorem joinR_length : ∀ (l : List Rg) (z : Rg), (joinR z l).2.length ≤ l.length
  | [], _ => Nat.le_refl _
  | r :: l, z => by
   simp only [joinR]
   split
   ·have := joinR_length l (z.1, if r.2 > z.2 then r.2 else z.2); simp only [List.length_cons]; omega
   ·exact Nat.le_refl _
theorem joinR_valid : ∀ (l : List Rg) (z : Rg), Valid (z :: l) → Valid ((joinR z l).1 :: (joinR z l).2)
  | [], z, h => h
  | r :: l, z, h => by
   have hz := h z (by simp)
   have hr := h r (by simp)
   simp only [joinR]
   split
   ·refine joinR_valid l _ ?_
    intro q hq
    rcases List.mem_cons.1 hq with rfl | hq
    ·simp only
     refine ⟨hz.1, ?_, ?_⟩ <;> split <;> omega
    ·exact h q (by simp [hq])
   ·exact h
theorem mergeC_join : ∀ (l : List Rg) (z : Rg), mergeC z l = (joinR z l).1 :: mergeL (joinR z l).2
  | [], z => rfl
  | r :: l, z => by
   simp only [mergeC, joinR]
   split
   ·exact mergeC_join l _
   ·rfl
theorem join_loop (g4 : List Rg) : ∀ (rest pre : List Rg) (z : Rg) (n : Nat), pre.length + rest.length ≤ 100000000 → Valid (z :: rest) → rest.length < n →
   ∃ p, pre ++ rest = p ++ (joinR z rest).2 ∧ iterN (fun x => refNorm_s10 x.1 x.2.1 x.2.2.1 x.2.2.2.1) n (pre ++ rest, (g4, (((pre.length : Nat) : Int), (z, ())))) =
    some (pre ++ rest, (g4, (((p.length : Nat) : Int), ((joinR z rest).1, ())))) := by
  intro rest
  induction rest with
  | nil =>
   intro pre z n h1 hv hn
   obtain ⟨n, rfl⟩ := succ_of hn
   refine ⟨pre, by simp [joinR], iterN_inr ?_⟩
   simp [refNorm_s10, joinR]
  | cons r rest ih =>
   intro pre z n h1 hv hn
   simp only [List.length_cons] at h1 hn
   obtain ⟨n, rfl⟩ := succ_of hn
   have hz := hv z (by simp)
   have hr := hv r (by simp)
   have hlt : ((pre.length : Nat) : Int) < ((pre ++ r :: rest).length : Int) := lt_mid
   have ew : IntKind.i64.wrap (((pre.length : Nat) : Int) + 1) = (((pre ++ [r]).length : Nat) : Int) := w_mid (by omega)
   have one : ∀ x : Rg, lk [x] (0 : Int) = some x := fun x => rfl
   have z0 : (0 : Int).toNat = 0 := rfl
   have s0 : ∀ x y : Rg, [x].set 0 y = [y] := fun x y => rfl
   have w1 : IntKind.i32.wrap (z.2 + 1) = z.2 + 1 := wrap32 (by omega) (by omega)
   by_cases hc : r.1 ≤ z.2 + 1
   ·have hj : joinR z (r :: rest) = joinR (z.1, if r.2 > z.2 then r.2 else z.2) rest := by simp only [joinR, if_pos hc]
    rw [hj]
    have hv2 : Valid ((z.1, if r.2 > z.2 then r.2 else z.2) :: rest) := by
     intro q hq
     rcases List.mem_cons.1 hq with rfl | hq
     ·simp only
      refine ⟨hz.1, ?_, ?_⟩ <;> split <;> omega
     ·exact hv q (by simp [hq])
    obtain ⟨p, hp, hs⟩ := ih (pre ++ [r]) (z.1, if r.2 > z.2 then r.2 else z.2) n (by simp; omega) hv2 (by omega)
    rw [← app_mid] at hs hp
    refine ⟨p, hp, (iterN_inl ?_).trans hs⟩
    by_cases h4 : r.2 > z.2
    ·simp only [refNorm_s10, hlt, decide_true, cond_true, lk_mid, Option.bind_some, w1, hc, h4, ew, if_true]
    ·simp only [refNorm_s10, hlt, decide_true, decide_false, cond_true, cond_false, lk_mid, Option.bind_some, w1, hc, h4, ew, if_false]
   ·have hj : joinR z (r :: rest) = (z, r :: rest) := by simp only [joinR, if_neg hc]
    rw [hj]
    refine ⟨pre, rfl, iterN_inr ?_⟩
    simp only [refNorm_s10, hlt, decide_true, decide_false, cond_true, cond_false, lk_mid, Option.bind_some, w1, hc]
theorem refMerge_loop : ∀ (k : Nat) (rest pre g : List Rg) (n : Nat), rest.length ≤ k → pre.length + rest.length ≤ 100000000 → g.length + rest.length ≤ 100000000 → Valid rest → k < n →
   iterN (fun x => refNorm_s4 x.1 x.2.1 x.2.2.1) n (pre ++ rest, (g, (((pre.length : Nat) : Int), ()))) = some (g ++ mergeL rest, ()) := by
  intro k
  induction k with
  | zero =>
   intro rest pre g n hk h1 h2 hv hn
   obtain ⟨n, rfl⟩ := succ_of hn
   have e1 : rest = [] := List.length_eq_zero_iff.1 (by omega)
   subst e1
   refine iterN_inr ?_
   simp [refNorm_s4, mergeL]
  | succ k ih =>
   intro rest pre g n hk h1 h2 hv hn
   obtain ⟨n, rfl⟩ := succ_of (Nat.lt_of_le_of_lt (Nat.zero_le _) hn)
   cases rest with
   | nil =>
    refine iterN_inr ?_
    simp [refNorm_s4, mergeL]
   | cons r rest =>
    simp only [List.length_cons] at hk h1 h2
    have hlt : ((pre.length : Nat) : Int) < ((pre ++ r :: rest).length : Int) := lt_mid
    have ew : IntKind.i64.wrap (((pre.length : Nat) : Int) + 1) = (((pre ++ [r]).length : Nat) : Int) := w_mid (by omega)
    obtain ⟨p, hp, hj⟩ := join_loop g rest (pre ++ [r]) r fuN (by simp; omega) hv (by have := fuN_le; omega)
    rw [← app_mid] at hj hp
    have hjl := joinR_length rest r
    have hjv := joinR_valid rest r hv
    have hpl : p.length + (joinR r rest).2.length = pre.length + rest.length + 1 := by
     have := congrArg List.length hp
     simp only [List.length_append, List.length_cons] at this
     omega
    have hs := ih (joinR r rest).2 p (g ++ [(joinR r rest).1]) n (by omega) (by omega) (by simp; omega) (fun q hq => hjv q (by simp [hq])) (by omega)
    have one : ∀ x : Rg, lk [x] (0 : Int) = some x := fun x => rfl
    have hrm : roomOk (g.length + [(joinR r rest).1].length) 8 = true := room8 (by simp; omega)
    have e : g ++ mergeL (r :: rest) = (g ++ [(joinR r rest).1]) ++ mergeL (joinR r rest).2 := by
     rw [show mergeL (r :: rest) = mergeC r rest from rfl, mergeC_join]; simp
    rw [e]
    rw [← hp] at hs
    refine (iterN_inl ?_).trans hs
    simp only [refNorm_s4, hlt, decide_true, cond_true, lk_mid, Option.bind_some, ew, hj, hrm]
theorem refNorm_is (l : List Rg) (h : l.length ≤ 50000000) : refNorm l = some ((), (norm l, ())) := by
  have h1 := refClipped_is l h
  have hcl := clip_length l
  obtain ⟨s, h2, h3, h4⟩ := refSorted_is (clipL l) (by omega)
  have hv : Valid s := fun r hr => clip_valid (h3.mem_iff.1 hr)
  have hl := h3.length_eq
  have h5 := refMerge_loop s.length s [] [] fuN (Nat.le_refl _) (by simp; omega) (by simp; omega) hv (by have := fuN_le; omega)
  have h5' : iterN (fun x => refNorm_s4 x.1 x.2.1 x.2.2.1) fuN (s, (([] : List (Int × Int)), ((0 : Int), ()))) = some (mergeL s, ()) := h5
  simp only [refNorm, h1, Option.bind_some, h2, h5', norm_eq h3 h4]
def hv (l : List Rg) (x : Int) : Bool := decide (0 ≤ x) && (decide (x ≤ 1114111) && has l x)
theorem index_loop (x L : Int) : ∀ (rest pre : List Rg) (n : Nat), pre.length + rest.length ≤ 100000000 → L = ((pre ++ rest).length : Int) → rest.length < n →
   ∃ y, iterN (fun x => indexFunc_s2 x.1 x.2.1 x.2.2.1 x.2.2.2.1) n (pre ++ rest, ((x, ()), (L, (((pre.length : Nat) : Int), ())))) = some y ∧
    ((has rest x = true ∧ ∃ i : Nat, y = .inl ((i : Int), ())) ∨ (has rest x = false ∧ y = .inr ())) := by
  intro rest
  induction rest with
  | nil =>
   intro pre n h1 hL hn
   obtain ⟨n, rfl⟩ := succ_of hn
   subst hL
   refine ⟨_, iterN_inr ?_, .inr ⟨rfl, rfl⟩⟩
   simp [indexFunc_s2]
  | cons r rest ih =>
   intro pre n h1 hL hn
   simp only [List.length_cons] at h1 hn
   obtain ⟨n, rfl⟩ := succ_of hn
   have hlt : ((pre.length : Nat) : Int) < L := by rw [hL]; exact lt_mid
   have ew : IntKind.i64.wrap (((pre.length : Nat) : Int) + 1) = (((pre ++ [r]).length : Nat) : Int) := w_mid (by omega)
   obtain ⟨y, h2, h3⟩ := ih (pre ++ [r]) n (by simp; omega) (by rw [hL]; simp) (by omega)
   rw [← app_mid] at h2
   have hf : hasF r x = some ((), (decide (r.1 ≤ x) && decide (x ≤ r.2), ())) := by
    by_cases hc : r.1 ≤ x <;> simp [hasF, hc]
   have hh : has (r :: rest) x = ((decide (r.1 ≤ x) && decide (x ≤ r.2)) || has rest x) := rfl
   cases hc : (decide (r.1 ≤ x) && decide (x ≤ r.2)) with
   | true =>
    rw [hc] at hf hh
    refine ⟨_, iterN_inr (y := .inl (((pre.length : Nat) : Int), ())) ?_, .inl ⟨by rw [hh]; rfl, _, rfl⟩⟩
    simp only [indexFunc_s2, hlt, decide_true, cond_true, lk_mid, Option.bind_some, hf]
   | false =>
    rw [hc] at hf hh
    refine ⟨y, (iterN_inl ?_).trans h2, by rw [hh]; exact h3⟩
    simp only [indexFunc_s2, hlt, decide_true, cond_true, cond_false, lk_mid, Option.bind_some, hf, ew]
theorem rHas_is (l : List Rg) (x : Int) (h : l.length ≤ 50000000) : rHas l x = some ((), (hv l x, ())) := by
  obtain ⟨y, h1, h2⟩ := index_loop x (l.length : Int) l [] fuN (by simp; omega) rfl (by have := fuN_le; omega)
  have h1' : iterN (fun x => indexFunc_s2 x.1 x.2.1 x.2.2.1 x.2.2.2.1) fuN (l, ((x, ()), ((l.length : Int), ((0 : Int), ())))) = some y := h1
  have hc : containsFunc l (x, ()) = some ((), (has l x, ())) := by
   rcases h2 with ⟨h2, i, rfl⟩ | ⟨h2, rfl⟩
   ·have : (i : Int) ≥ 0 := by omega
    simp only [containsFunc, indexFunc, h1', Option.bind_some, h2, this, decide_true]
   ·have : ¬ ((-1 : Int) ≥ 0) := by decide
    simp only [containsFunc, indexFunc, h1', Option.bind_some, h2, this, decide_false]
  unfold hv
  by_cases c1 : 0 ≤ x <;> by_cases c2 : x ≤ 1114111 <;> simp [rHas, c1, c2, hc]
def bd (c : Int) : Option (Int × List (Int × Int)) :=
  if c < 128 then some (c, [])
  else if c < 194 then none
  else if c < 224 then some (c - 192, [(128, 191)])
  else if c < 240 then some (c - 224, [(if c = 224 then 160 else 128, if c = 237 then 159 else 191), (128, 191)])
  else if c ≤ 244 then some (c - 240, [(if c = 240 then 144 else 128, if c = 244 then 143 else 191), (128, 191), (128, 191)])
  else none
def mt : List (Int × Int) → List Int → Nat
  | (lo, hi) :: bs, x :: xs => if lo ≤ x ∧ x ≤ hi then mt bs xs + 1 else 0
  | _, _ => 0
def vl (r : Int) : Nat → List Int → Int
  | k + 1, x :: xs => vl (r * 64 + x % 64) k xs
  | _, _ => r
def front : List Int → Int × Nat × Bool
  | [] => (0, 0, false)
  | c :: xs => match bd c with
   | none => (65533, 1, false)
   | some (r, bs) => if mt bs xs < bs.length then (65533, mt bs xs + 1, decide (mt bs xs = xs.length)) else (vl r bs.length xs, bs.length + 1, false)
def Byte (x : Int) : Prop := 0 ≤ x ∧ x < 256
def Bytes (l : List Int) : Prop := ∀ x ∈ l, Byte x
theorem byte_all {p : Int → Bool} (h : ((List.range 256).all fun c => p (c : Int)) = true) (x : Int) (hx : Byte x) : p x = true := by
  obtain ⟨n, rfl⟩ : ∃ n : Nat, x = (n : Int) := ⟨x.toNat, by have := hx.1; omega⟩
  exact List.all_eq_true.1 h n (List.mem_range.2 (by have := hx.2; omega))
def leadV (c : Int) : Int × (Int × (Int × (Int × Unit))) := match bd c with
  | none => (0, (0, (128, (191, ()))))
  | some (r, bs) => (((bs.length + 1 : Nat) : Int), (r, (((bs.head?).getD (128, 191)).1, (((bs.head?).getD (128, 191)).2, ()))))
theorem lead_is (c : Int) (hc : Byte c) : utfLead c = some ((), leadV c) :=
  of_decide_eq_true (byte_all (p := fun c => decide (utfLead c = some ((), leadV c))) (by kernel_rfl) c hc)
theorem bd_ok (c : Int) (hc : Byte c) : (match bd c with | none => True | some (r, bs) => 0 ≤ r ∧ r < 128 ∧ bs.length ≤ 3 ∧ (bs = [] ∨ r < 32) ∧ ∀ y ∈ bs.drop 1, y = (128, 191)) := by
  have h0 := hc.1; have h9 := hc.2
  by_cases h1 : c < 128
  ·simp only [bd, if_pos h1]; exact ⟨by omega, by omega, by simp, by simp, by simp⟩
  by_cases h2 : c < 194
  ·simp only [bd, if_neg h1, if_pos h2]
  by_cases h3 : c < 224
  ·simp only [bd, if_neg h1, if_neg h2, if_pos h3]; exact ⟨by omega, by omega, by simp, .inr (by omega), by simp⟩
  by_cases h4 : c < 240
  ·simp only [bd, if_neg h1, if_neg h2, if_neg h3, if_pos h4]; exact ⟨by omega, by omega, by simp, .inr (by omega), by simp⟩
  by_cases h5 : c ≤ 244
  ·simp only [bd, if_neg h1, if_neg h2, if_neg h3, if_neg h4, if_pos h5]; exact ⟨by omega, by omega, by simp, .inr (by omega), by simp⟩
  ·simp only [bd, if_neg h1, if_neg h2, if_neg h3, if_neg h4, if_neg h5]
theorem and63 (x : Int) (hx : Byte x) : IntKind.u8.wrap (((BitVec.ofInt IntKind.u8.bits x &&& BitVec.ofInt IntKind.u8.bits (63 : Int)).toNat : Int)) = x % 64 :=
  of_decide_eq_true (byte_all (p := fun x => decide (IntKind.u8.wrap (((BitVec.ofInt IntKind.u8.bits x &&& BitVec.ofInt IntKind.u8.bits (63 : Int)).toNat : Int)) = x % 64)) (by kernel_rfl) x hx)
theorem wrap32' {x : Int} (h1 : -2147483648 ≤ x) (h2 : x < 2147483648) : IntKind.i32.wrap x = x := by
  simp only [IntKind.wrap, IntKind.signed, IntKind.bits]
  simp
  omega
theorem or64 {r y : Int} (h0 : 0 ≤ r) (h1 : r < 16777216) (h2 : 0 ≤ y) (h3 : y < 64) : IntKind.i32.wrap (((BitVec.ofInt IntKind.i32.bits (r * 64) ||| BitVec.ofInt IntKind.i32.bits y).toNat : Int)) = r * 64 + y := by
  obtain ⟨a, rfl⟩ : ∃ a : Nat, r = (a : Int) := ⟨r.toNat, by omega⟩
  obtain ⟨b, rfl⟩ : ∃ b : Nat, y = (b : Int) := ⟨y.toNat, by omega⟩
  have e1 : ((a : Int) * 64) = ((a * 64 : Nat) : Int) := by omega
  rw [e1]
  show IntKind.i32.wrap (((BitVec.ofInt 32 ((a * 64 : Nat) : Int) ||| BitVec.ofInt 32 ((b : Nat) : Int)).toNat : Int)) = _
  simp only [BitVec.ofInt_natCast, BitVec.toNat_or, BitVec.toNat_ofNat]
  rw [Nat.mod_eq_of_lt (by omega), Nat.mod_eq_of_lt (by omega)]
  have e2 : a * 64 ||| b = a * 64 + b := by
   have := Nat.two_pow_add_eq_or_of_lt (i := 6) (b := b) (by omega) a
   rw [show (2 : Nat) ^ 6 = 64 from rfl] at this
   rw [Nat.mul_comm, this]
  rw [e2, wrap32' (by omega) (by omega)]
  omega
theorem one_loop (n : Nat) (hn : n ≤ 4) : ∀ (bs : List (Int × Int)) (xs pre : List Int) (r lo hi : Int) (k : Nat), Bytes xs → (∀ p ∈ bs.head?, p = (lo, hi)) → (∀ y ∈ bs.drop 1, y = ((128 : Int), (191 : Int))) → pre.length + bs.length = n → pre.length + xs.length < 4611686018427387904 → 0 ≤ r → (r + 1) * 64 ^ bs.length ≤ 1073741824 → bs.length < k →
   iterN (fun x => utfOne_s7 x.1 x.2.1 x.2.2.1 x.2.2.2.1 x.2.2.2.2.1 x.2.2.2.2.2.1) k (pre ++ xs, (r, ((n : Int), (lo, (hi, (((pre.length : Nat) : Int), ())))))) =
    some (if mt bs xs < bs.length then .inl (65533, (((pre.length + mt bs xs : Nat) : Int), (decide (mt bs xs = xs.length), ()))) else .inr (vl r bs.length xs, ((n : Int), ()))) := by
  intro bs
  induction bs with
  | nil =>
   intro xs pre r lo hi k hx h1 h2 h3 h4 hr0 hr1 hk
   obtain ⟨k, rfl⟩ := succ_of hk
   have hlt : ¬ ((pre.length : Nat) : Int) < (n : Int) := by simp at h3; omega
   refine iterN_inr ?_
   simp only [utfOne_s7, hlt, decide_false, cond_false, Option.bind_some, mt, List.length_nil, Nat.lt_irrefl, if_false, vl]
  | cons p bs ih =>
   intro xs pre r lo hi k hx h1 h2 h3 h4 hr0 hr1 hk
   obtain ⟨k, rfl⟩ := succ_of hk
   have hp : p = (lo, hi) := h1 p (by simp)
   subst hp
   simp only [List.length_cons] at h3 hr1 hk
   have hlt : ((pre.length : Nat) : Int) < (n : Int) := by omega
   cases xs with
   | nil =>
    have he : (((pre.length : Nat) : Int) == ((pre ++ ([] : List Int)).length : Int)) = true := by simp
    refine iterN_inr ?_
    simp only [utfOne_s7, hlt, decide_true, cond_true, Option.bind_some, he, mt, List.length_cons, List.length_nil, Nat.zero_lt_succ, if_true, Nat.add_zero]
   | cons x xs =>
    have hxb := hx x (by simp)
    have he : (((pre.length : Nat) : Int) == ((pre ++ x :: xs).length : Int)) = false := by simp; omega
    have hlk : lk (pre ++ x :: xs) ((pre.length : Nat) : Int) = some x := lk_mid
    have hm : mt ((lo, hi) :: bs) (x :: xs) = if lo ≤ x ∧ x ≤ hi then mt bs xs + 1 else 0 := rfl
    by_cases c1 : x < lo
    ·rw [hm, if_neg (show ¬ (lo ≤ x ∧ x ≤ hi) by omega), if_pos (show 0 < ((lo, hi) :: bs).length from Nat.zero_lt_succ _)]
     refine iterN_inr ?_
     simp only [utfOne_s7, hlt, decide_true, cond_true, cond_false, Option.bind_some, he, hlk, c1, Nat.add_zero]
     simp
    ·by_cases c2 : x > hi
     ·rw [hm, if_neg (show ¬ (lo ≤ x ∧ x ≤ hi) by omega), if_pos (show 0 < ((lo, hi) :: bs).length from Nat.zero_lt_succ _)]
      refine iterN_inr ?_
      simp only [utfOne_s7, hlt, decide_true, decide_false, cond_true, cond_false, Option.bind_some, he, hlk, c1, c2, Nat.add_zero]
      simp
     ·rw [hm, if_pos (show lo ≤ x ∧ x ≤ hi by omega)]
      have hy := hxb.1; have hy2 := hxb.2
      have hp64 : 1 ≤ (64 : Int) ^ bs.length := by
       have := Nat.one_le_pow bs.length 64 (by decide)
       exact_mod_cast this
      rw [Int.pow_succ, Int.mul_comm ((64 : Int) ^ bs.length) 64, ← Int.mul_assoc] at hr1
      have hr4 : (r * 64 + x % 64 + 1) * 64 ^ bs.length ≤ (r + 1) * 64 * 64 ^ bs.length := Int.mul_le_mul_of_nonneg_right (by omega) (by omega)
      have hr2 : r * 64 < 1073741824 := by
       have h5 : (r + 1) * 64 * 1 ≤ (r + 1) * 64 * 64 ^ bs.length := Int.mul_le_mul_of_nonneg_left hp64 (by omega)
       omega
      have hr3 : r < 16777216 := by omega
      have e1 : IntKind.i32.wrap (r * 2 ^ (min (6 : Int).toNat IntKind.i32.bits)) = r * 64 := by
       rw [show (2 : Int) ^ (min (6 : Int).toNat IntKind.i32.bits) = 64 by decide]
       exact wrap32' (by omega) (by omega)
      have e2 := and63 x hxb
      have e3 : IntKind.i32.wrap (x % 64) = x % 64 := wrap32' (by omega) (by omega)
      have e4 := or64 hr0 hr3 (y := x % 64) (by omega) (by omega)
      have ew : IntKind.i64.wrap (((pre.length : Nat) : Int) + 1) = (((pre ++ [x]).length : Nat) : Int) := by
       rw [wrap64 (by omega) (by simp only [List.length_cons] at h4; omega)]; simp
      have hs := ih xs (pre ++ [x]) (r * 64 + x % 64) 128 191 k (fun y hy => hx y (by simp [hy])) (fun q hq => h2 q (by
       cases bs with
       | nil => simp at hq
       | cons b bs => simp at hq ⊢; exact .inl hq.symm)) (fun y hy => h2 y (by
       simp only [List.drop_succ_cons, List.drop_zero]; exact List.mem_of_mem_drop hy)) (by simp; omega) (by simp at h4 ⊢; omega) (by omega) (by omega) (by omega)
      rw [← app_mid] at hs
      have hgoal : (if mt bs xs + 1 < bs.length + 1 then (.inl (65533, (((pre.length + (mt bs xs + 1) : Nat) : Int), (decide (mt bs xs + 1 = xs.length + 1), ()))) : (Int × (Int × (Bool × Unit))) ⊕ (Int × (Int × Unit))) else .inr (vl r (bs.length + 1) (x :: xs), ((n : Int), ()))) =
        (if mt bs xs < bs.length then .inl (65533, ((((pre ++ [x]).length + mt bs xs : Nat) : Int), (decide (mt bs xs = xs.length), ()))) else .inr (vl (r * 64 + x % 64) bs.length xs, ((n : Int), ()))) := by
       by_cases c : mt bs xs < bs.length
       ·rw [if_pos c, if_pos (by omega)]
        congr 3
        ·simp; omega
        ·simp
       ·rw [if_neg c, if_neg (by omega)]
        rfl
      simp only [List.length_cons]
      rw [hgoal]
      refine (iterN_inl ?_).trans hs
      simp only [utfOne_s7, hlt, decide_true, decide_false, cond_true, cond_false, Option.bind_some, he, hlk, c1, c2, e1, e2, e3, e4, ew, show decide (0 ≤ (6 : Int)) = true from rfl]
theorem one_is (c : Int) (xs : List Int) (hb : Bytes (c :: xs)) (hl : xs.length < 4611686018427387903) :
   utfOne (c :: xs) = some ((), ((front (c :: xs)).1, ((((front (c :: xs)).2.1 : Nat) : Int), ((front (c :: xs)).2.2, ())))) := by
  have hc := hb c (by simp)
  have hlk : lk (c :: xs) (0 : Int) = some c := rfl
  have hd := bd_ok c hc
  simp only [utfOne, hlk, Option.bind_some, lead_is c hc, leadV, front]
  cases hbd : bd c with
  | none => simp
  | some q =>
   obtain ⟨r, bs⟩ := q
   rw [hbd] at hd
   obtain ⟨d1, d2, d3, d4, d5⟩ := hd
   have hn0 : ((((bs.length + 1 : Nat) : Int)) == (0 : Int)) = false := by simp; omega
   have hpow : (r + 1) * 64 ^ bs.length ≤ 1073741824 := by
    rcases d4 with rfl | d4
    ·simp; omega
    ·have h1 : (64 : Int) ^ bs.length ≤ 262144 := by
      generalize bs.length = k at d3
      match k, d3 with
      | 0, _ => decide
      | 1, _ => decide
      | 2, _ => decide
      | 3, _ => decide
      | k + 4, h => omega
     have h2 : (r + 1) * 64 ^ bs.length ≤ 32 * 64 ^ bs.length := Int.mul_le_mul_of_nonneg_right (by omega) (Int.le_of_lt (Int.pow_pos (by decide)))
     omega
   have hs := one_loop (bs.length + 1) (by omega) bs xs [c] r ((bs.head?).getD (128, 191)).1 ((bs.head?).getD (128, 191)).2 fuN (fun x hx => hb x (by simp [hx])) (fun p hp => by
    cases bs with
    | nil => simp at hp
    | cons b bs => simp at hp; subst hp; rfl) d5 (by simp; omega) (by simp; omega) d1 hpow (by have := fuN_le; omega)
   have e1 : (([c] : List Int).length : Int) = 1 := rfl
   rw [e1] at hs
   simp only [List.singleton_append] at hs
   simp only [hn0, cond_false, Option.bind_some]
   rw [hs]
   by_cases hm : mt bs xs < bs.length
   ·simp only [if_pos hm, Option.bind_some]
    simp
    omega
   ·simp only [if_neg hm, Option.bind_some]
def flat (bs : List (Int × Int)) : List Int := bs.flatMap fun p => [p.1, p.2]
theorem flat_length (bs : List (Int × Int)) : (flat bs).length = 2 * bs.length := by
  induction bs with
  | nil => rfl
  | cons p bs ih => simp only [flat, List.flatMap_cons, List.length_append, List.length_cons, List.length_nil] at ih ⊢; omega
def rowV (c : Int) : List Int × (Bool × Unit) := match bd c with
  | none => ([], (false, ()))
  | some (_, bs) => (flat bs, (true, ()))
theorem row_is (c : Int) (hc : Byte c) : row1 c = some ((), rowV c) :=
  of_decide_eq_true (byte_all (p := fun c => decide (row1 c = some ((), rowV c))) (by kernel_rfl) c hc)
theorem flat_lk (bp : List (Int × Int)) (p : Int × Int) (bs : List (Int × Int)) : lk (flat (bp ++ p :: bs)) ((2 * bp.length : Nat) : Int) = some p.1 ∧ lk (flat (bp ++ p :: bs)) ((2 * bp.length + 1 : Nat) : Int) = some p.2 := by
  have h := flat_length bp
  have e : flat (bp ++ p :: bs) = flat bp ++ p.1 :: p.2 :: flat bs := by simp [flat]
  rw [e]
  constructor
  ·exact lk_idx (by rw [List.getElem?_append_right (by omega)]; simp [h])
  ·exact lk_idx (by rw [List.getElem?_append_right (by omega)]; simp [h])
theorem at_loop1 (b : List Int) (at' : Nat) (hL : b.length < 4611686018427387903) : ∀ (bs bp : List (Int × Int)) (xs pre : List Int) (k : Nat), b = pre ++ xs → pre.length = at' + 1 + bp.length → bp.length + bs.length ≤ 3 → bs.length < k →
   iterN (fun x => at1_s7 x.1 x.2.1 x.2.2.1 x.2.2.2.1) k (b, ((at' : Int), (flat (bp ++ bs), (((bp.length + 1 : Nat) : Int), ())))) = some (b, ((at' : Int), (flat (bp ++ bs), (((bp.length + 1 + mt bs xs : Nat) : Int), ())))) := by
  intro bs
  induction bs with
  | nil =>
   intro bp xs pre k hb hp h3 hk
   obtain ⟨k, rfl⟩ := succ_of hk
   have hfl := flat_length (bp ++ [])
   have e1 : IntKind.i64.wrap (Int.tdiv ((flat (bp ++ [])).length : Int) (2 : Int)) = (bp.length : Int) := by
    rw [hfl, Int.tdiv_eq_ediv_of_nonneg (by omega)]
    simp only [List.append_nil]
    rw [wrap64] <;> omega
   have h0 : ¬ ((bp.length + 1 : Nat) : Int) ≤ (bp.length : Int) := by omega
   refine iterN_inr ?_
   simp only [at1_s7, show ((2 : Int) != 0) = true from rfl, cond_true, e1, h0, decide_false, cond_false, Option.bind_some, mt, Nat.add_zero]
  | cons p bs ih =>
   intro bp xs pre k hb hp h3 hk
   obtain ⟨k, rfl⟩ := succ_of hk
   simp only [List.length_cons] at h3 hk
   have hfl := flat_length (bp ++ p :: bs)
   have e1 : IntKind.i64.wrap (Int.tdiv ((flat (bp ++ p :: bs)).length : Int) (2 : Int)) = ((bp.length + bs.length + 1 : Nat) : Int) := by
    rw [hfl, Int.tdiv_eq_ediv_of_nonneg (by omega)]
    simp only [List.length_append, List.length_cons]
    rw [wrap64] <;> omega
   have h0 : ((bp.length + 1 : Nat) : Int) ≤ ((bp.length + bs.length + 1 : Nat) : Int) := by omega
   have hlen : b.length = pre.length + xs.length := by rw [hb]; simp
   have e2 : IntKind.i64.wrap ((at' : Int) + ((bp.length + 1 : Nat) : Int)) = ((pre.length : Nat) : Int) := by rw [wrap64] <;> omega
   have e3 : IntKind.i64.wrap (IntKind.i64.wrap ((2 : Int) * ((bp.length + 1 : Nat) : Int)) - (2 : Int)) = ((2 * bp.length : Nat) : Int) := by
    rw [wrap64 (x := (2 : Int) * ((bp.length + 1 : Nat) : Int)) (by omega) (by omega), wrap64] <;> omega
   have e4 : IntKind.i64.wrap (IntKind.i64.wrap ((2 : Int) * ((bp.length + 1 : Nat) : Int)) - (1 : Int)) = ((2 * bp.length + 1 : Nat) : Int) := by
    rw [wrap64 (x := (2 : Int) * ((bp.length + 1 : Nat) : Int)) (by omega) (by omega), wrap64] <;> omega
   obtain ⟨f1, f2⟩ := flat_lk bp p bs
   cases xs with
   | nil =>
    have h5 : ¬ ((pre.length : Nat) : Int) < (b.length : Int) := by simp at hlen; omega
    refine iterN_inr ?_
    simp only [at1_s7, show ((2 : Int) != 0) = true from rfl, cond_true, e1, h0, decide_true, decide_false, cond_false, Option.bind_some, e2, h5, mt, Nat.add_zero]
   | cons x xs =>
    have h5 : ((pre.length : Nat) : Int) < (b.length : Int) := by simp at hlen; omega
    have hlk : lk b ((pre.length : Nat) : Int) = some x := by rw [hb]; exact lk_mid
    obtain ⟨lo, hi⟩ := p
    have hm : mt ((lo, hi) :: bs) (x :: xs) = if lo ≤ x ∧ x ≤ hi then mt bs xs + 1 else 0 := rfl
    by_cases c1 : x ≥ lo
    ·by_cases c2 : x ≤ hi
     ·rw [hm, if_pos ⟨c1, c2⟩]
      have hs := ih (bp ++ [(lo, hi)]) xs (pre ++ [x]) k (by rw [hb]; simp) (by simp; omega) (by simp; omega) (by omega)
      have e5 : (bp ++ [(lo, hi)]) ++ bs = bp ++ (lo, hi) :: bs := by simp
      rw [e5] at hs
      have e6 : (bp ++ [(lo, hi)]).length + 1 + mt bs xs = bp.length + 1 + (mt bs xs + 1) := by simp; omega
      rw [e6] at hs
      have ew : IntKind.i64.wrap (((bp.length + 1 : Nat) : Int) + 1) = (((bp ++ [(lo, hi)]).length + 1 : Nat) : Int) := by
       rw [wrap64] <;> (try simp) <;> omega
      refine (iterN_inl ?_).trans hs
      simp only [at1_s7, show ((2 : Int) != 0) = true from rfl, cond_true, e1, h0, decide_true, Option.bind_some, e2, h5, hlk, e3, e4, f1, f2, c1, c2, ew]
     ·rw [hm, if_neg (fun h => c2 h.2)]
      refine iterN_inr ?_
      simp only [at1_s7, show ((2 : Int) != 0) = true from rfl, cond_true, e1, h0, decide_true, decide_false, cond_false, Option.bind_some, e2, h5, hlk, e3, e4, f1, f2, c1, c2, Nat.add_zero]
    ·rw [hm, if_neg (fun h => c1 h.1)]
     refine iterN_inr ?_
     simp only [at1_s7, show ((2 : Int) != 0) = true from rfl, cond_true, e1, h0, decide_true, decide_false, cond_false, Option.bind_some, e2, h5, hlk, e3, f1, c1, Nat.add_zero]
theorem at_loop2 (b : List Int) (at' n : Nat) (hL : b.length < 4611686018427387903) (hb : Bytes b) : ∀ (j : Nat) (xs pre : List Int) (r : Int) (i k : Nat), b = pre ++ xs → pre.length = at' + i → i + j = n → j ≤ xs.length → n ≤ 4 → 0 ≤ r → (r + 1) * 64 ^ j ≤ 1073741824 → j < k →
   iterN (fun x => at1_s30 x.1 x.2.1 x.2.2.1 x.2.2.2.1 x.2.2.2.2.1) k (b, ((at' : Int), ((n : Int), (r, ((i : Int), ()))))) = some ((n : Int), (vl r j xs, ())) := by
  intro j
  induction j with
  | zero =>
   intro xs pre r i k h1 h2 h3 h4 hn h5 h6 hk
   obtain ⟨k, rfl⟩ := succ_of hk
   have h0 : ¬ ((i : Nat) : Int) < (n : Int) := by omega
   refine iterN_inr ?_
   simp only [at1_s30, h0, decide_false, cond_false, Option.bind_some, vl]
  | succ j ih =>
   intro xs pre r i k h1 h2 h3 h4 hn h5 h6 hk
   obtain ⟨k, rfl⟩ := succ_of hk
   have h0 : ((i : Nat) : Int) < (n : Int) := by omega
   cases xs with
   | nil => simp at h4
   | cons x xs =>
    have hlen : b.length = pre.length + xs.length + 1 := by rw [h1]; simp; omega
    have hx := hb x (by rw [h1]; simp)
    have hy := hx.1; have hy2 := hx.2
    have e2 : IntKind.i64.wrap ((at' : Int) + ((i : Nat) : Int)) = ((pre.length : Nat) : Int) := by rw [wrap64] <;> omega
    have hlk : lk b ((pre.length : Nat) : Int) = some x := by rw [h1]; exact lk_mid
    have hp64 : 1 ≤ (64 : Int) ^ j := by
     have := Nat.one_le_pow j 64 (by decide)
     exact_mod_cast this
    rw [Int.pow_succ, Int.mul_comm ((64 : Int) ^ j) 64, ← Int.mul_assoc] at h6
    have hr4 : (r * 64 + x % 64 + 1) * 64 ^ j ≤ (r + 1) * 64 * 64 ^ j := Int.mul_le_mul_of_nonneg_right (by omega) (by omega)
    have h7 : (r + 1) * 64 * 1 ≤ (r + 1) * 64 * 64 ^ j := Int.mul_le_mul_of_nonneg_left hp64 (by omega)
    have e3 : IntKind.i32.wrap (x) = x := wrap32' (by omega) (by omega)
    have e4 : Int.tmod x 64 = x % 64 := Int.tmod_eq_emod_of_nonneg (by omega)
    have e5 : IntKind.i32.wrap (r * 64) = r * 64 := wrap32' (by omega) (by omega)
    have e6 : IntKind.i32.wrap (r * 64 + x % 64) = r * 64 + x % 64 := wrap32' (by omega) (by omega)
    have ew : IntKind.i64.wrap (((i : Nat) : Int) + 1) = ((i + 1 : Nat) : Int) := by rw [wrap64] <;> omega
    have hs := ih xs (pre ++ [x]) (r * 64 + x % 64) (i + 1) k (by rw [h1]; simp) (by simp; omega) (by omega) (by simp at h4; omega) hn (by omega) (by omega) (by omega)
    refine (iterN_inl ?_).trans hs
    simp only [at1_s30, h0, decide_true, cond_true, Option.bind_some, e2, hlk, show ((64 : Int) != 0) = true from rfl, e3, e4, e5, e6, ew]
theorem mt_le : ∀ (bs : List (Int × Int)) (xs : List Int), mt bs xs ≤ bs.length ∧ mt bs xs ≤ xs.length
  | [], xs => by simp [mt]
  | (lo, hi) :: bs, [] => by simp [mt]
  | (lo, hi) :: bs, x :: xs => by
   have h := mt_le bs xs
   simp only [mt]
   split
   ·simp; omega
   ·simp
theorem bd_val (c : Int) (hc : Byte c) : (match bd c with | none => True | some (r, bs) => (bs.length = 0 → r = c) ∧ (bs.length = 1 → c % 2 ^ (6 - 1) = r) ∧ (bs.length = 2 → c % 2 ^ (6 - 2) = r) ∧ (bs.length = 3 → c % 2 ^ (6 - 3) = r)) := by
  have h := byte_all (p := fun c => match bd c with | none => true | some (r, bs) => (decide (bs.length ≠ 0) || decide (r = c)) && (decide (bs.length ≠ 1) || decide (c % 2 ^ (6 - 1) = r)) && (decide (bs.length ≠ 2) || decide (c % 2 ^ (6 - 2) = r)) && (decide (bs.length ≠ 3) || decide (c % 2 ^ (6 - 3) = r))) (by kernel_rfl) c hc
  cases hbd : bd c with
  | none => trivial
  | some q =>
   rw [hbd] at h
   simp only [Bool.and_eq_true, Bool.or_eq_true, decide_eq_true_eq] at h
   obtain ⟨⟨⟨h1, h2⟩, h3⟩, h4⟩ := h
   exact ⟨fun h => h1.resolve_left (fun g => g h), fun h => h2.resolve_left (fun g => g h), fun h => h3.resolve_left (fun g => g h), fun h => h4.resolve_left (fun g => g h)⟩
theorem at_is (pre : List Int) (c : Int) (xs : List Int) (hb : Bytes (pre ++ c :: xs)) (hl : (pre ++ c :: xs).length < 4611686018427387903) :
   at1 (pre ++ c :: xs) (pre.length : Int) = some ((), ((front (c :: xs)).1, ((((front (c :: xs)).2.1 : Nat) : Int), ((front (c :: xs)).2.2, ())))) := by
  have hc := hb c (by simp)
  have hlk : lk (pre ++ c :: xs) ((pre.length : Nat) : Int) = some c := lk_mid
  have hd := bd_ok c hc
  have hlen : (pre ++ c :: xs).length = pre.length + xs.length + 1 := by simp; omega
  simp only [at1, hlk, Option.bind_some, row_is c hc, rowV, front]
  cases hbd : bd c with
  | none => simp
  | some q =>
   obtain ⟨r, bs⟩ := q
   rw [hbd] at hd
   obtain ⟨d1, d2, d3, d4, d5⟩ := hd
   have hs := at_loop1 (pre ++ c :: xs) pre.length hl bs [] xs (pre ++ [c]) fuN (by simp) (by simp) (by simpa using d3) (by have := fuN_le; omega)
   simp only [List.nil_append, List.length_nil, Nat.zero_add] at hs
   have e0 : (((1 : Nat)) : Int) = (1 : Int) := rfl
   rw [e0] at hs
   have hml := mt_le bs xs
   have hfl := flat_length bs
   have e1 : IntKind.i64.wrap (Int.tdiv ((flat bs).length : Int) (2 : Int)) = (bs.length : Int) := by
    rw [hfl, Int.tdiv_eq_ediv_of_nonneg (by omega)]
    rw [wrap64] <;> omega
   have e2 : IntKind.i64.wrap ((pre.length : Int) + ((1 + mt bs xs : Nat) : Int)) = ((pre.length + 1 + mt bs xs : Nat) : Int) := by rw [wrap64] <;> omega
   simp only [Bool.not_true, cond_false, Option.bind_some, hs, show ((2 : Int) != 0) = true from rfl, cond_true, e1]
   by_cases hm : mt bs xs < bs.length
   ·have h1 : ((1 + mt bs xs : Nat) : Int) ≤ (bs.length : Int) := by omega
    have h2 : ((((pre.length + 1 + mt bs xs : Nat) : Int)) == ((pre ++ c :: xs).length : Int)) = decide (mt bs xs = xs.length) := by
     rw [hlen]
     by_cases h : mt bs xs = xs.length
     ·rw [h]; simp; omega
     ·simp [h]; omega
    simp only [h1, decide_true, cond_true, Option.bind_some, e2, h2, if_pos hm]
    rw [show 1 + mt bs xs = mt bs xs + 1 by omega]
   ·have h1 : ¬ ((1 + mt bs xs : Nat) : Int) ≤ (bs.length : Int) := by omega
    have hmm : mt bs xs = bs.length := by omega
    simp only [h1, decide_false, cond_false, Option.bind_some, if_neg hm]
    rw [hmm]
    have hxl : bs.length ≤ xs.length := by omega
    have e3 : IntKind.i32.wrap c = c := wrap32' (by have := hc.1; omega) (by have := hc.2; omega)
    have hv := bd_val c hc
    rw [hbd] at hv
    have fin : ∀ m : Nat, bs.length = m → 1 ≤ m → IntKind.i32.wrap ((1 : Int) * 2 ^ (min (IntKind.i64.wrap ((7 : Int) - ((1 + m : Nat) : Int))).toNat IntKind.i32.bits)) = 2 ^ (6 - m) → c % 2 ^ (6 - m) = r →
      (decide (0 ≤ (IntKind.i64.wrap ((7 : Int) - ((1 + m : Nat) : Int))))) = true → ((2 : Int) ^ (6 - m) != 0) = true → 0 < (2 : Int) ^ (6 - m) → (r + 1) * 64 ^ m ≤ 1073741824 →
      (bif (((1 + bs.length : Nat) : Int) == (1 : Int)) then
       (Option.bind (lk (pre ++ c :: xs) ((pre.length : Nat) : Int)) fun x24 => some (.inl ((IntKind.i32.wrap (x24)), ((1 : Int), (false, ()))) : (Int × (Int × (Bool × Unit))) ⊕ (List Int × (Int × (Int × Unit)))))
      else some (.inr (pre ++ c :: xs, (((pre.length : Nat) : Int), (((1 + bs.length : Nat) : Int), ()))))) = some (.inr (pre ++ c :: xs, (((pre.length : Nat) : Int), (((1 + m : Nat) : Int), ())))) ∧
      iterN (fun x => at1_s30 x.1 x.2.1 x.2.2.1 x.2.2.2.1 x.2.2.2.2.1) fuN (pre ++ c :: xs, (((pre.length : Nat) : Int), (((1 + m : Nat) : Int), ((Int.tmod c (2 ^ (6 - m))), ((1 : Int), ()))))) = some (((1 + m : Nat) : Int), (vl r m xs, ())) := by
     intro m hm h1 h2 h3 h4 h5 h6 h7
     subst hm
     refine ⟨?_, ?_⟩
     ·rw [show ((((1 + bs.length : Nat) : Int)) == (1 : Int)) = false by simp; omega]
      rfl
     ·have e4 : Int.tmod c (2 ^ (6 - bs.length)) = r := by rw [Int.tmod_eq_emod_of_nonneg hc.1, h3]
      rw [e4]
      exact at_loop2 (pre ++ c :: xs) pre.length (1 + bs.length) hl hb bs.length xs (pre ++ [c]) r 1 fuN (by simp) (by simp) (by omega) hxl (by omega) d1 h7 (by have := fuN_le; omega)
    have hpow : bs.length ≠ 0 → ∀ m : Nat, bs.length = m → m ≤ 3 → (r + 1) * 64 ^ m ≤ 1073741824 := fun h0 m hm h3 => by
     have hr : r < 32 := by
      rcases d4 with rfl | d4
      ·exact absurd rfl h0
      ·exact d4
     have h1 : (64 : Int) ^ m ≤ 262144 := by
      match m, h3 with
      | 0, _ => decide
      | 1, _ => decide
      | 2, _ => decide
      | 3, _ => decide
      | k + 4, h => omega
     have h2 : (r + 1) * 64 ^ m ≤ 32 * 64 ^ m := Int.mul_le_mul_of_nonneg_right (by omega) (Int.le_of_lt (Int.pow_pos (by decide)))
     omega
    rcases (by omega : bs.length = 0 ∨ bs.length = 1 ∨ bs.length = 2 ∨ bs.length = 3) with h | h | h | h
    ·have hr : r = c := hv.1 h
     subst hr
     rw [h]
     simp [hlk, e3, vl]
    ·obtain ⟨g1, g2⟩ := fin 1 h (by omega) (by decide) (hv.2.1 h) (by decide) (by decide) (by decide) (hpow (by omega) 1 h (by omega))
     rw [g1]
     simp only [Option.bind_some, hlk, e3]
     rw [show (decide (0 ≤ (IntKind.i64.wrap ((7 : Int) - ((1 + 1 : Nat) : Int))))) = true by decide, show IntKind.i32.wrap ((1 : Int) * 2 ^ (min (IntKind.i64.wrap ((7 : Int) - ((1 + 1 : Nat) : Int))).toNat IntKind.i32.bits)) = 2 ^ (6 - 1) by decide]
     simp only [cond_true, show ((2 : Int) ^ (6 - 1) != 0) = true by decide, g2, Option.bind_some, h]
    ·obtain ⟨g1, g2⟩ := fin 2 h (by omega) (by decide) (hv.2.2.1 h) (by decide) (by decide) (by decide) (hpow (by omega) 2 h (by omega))
     rw [g1]
     simp only [Option.bind_some, hlk, e3]
     rw [show (decide (0 ≤ (IntKind.i64.wrap ((7 : Int) - ((1 + 2 : Nat) : Int))))) = true by decide, show IntKind.i32.wrap ((1 : Int) * 2 ^ (min (IntKind.i64.wrap ((7 : Int) - ((1 + 2 : Nat) : Int))).toNat IntKind.i32.bits)) = 2 ^ (6 - 2) by decide]
     simp only [cond_true, show ((2 : Int) ^ (6 - 2) != 0) = true by decide, g2, Option.bind_some, h]
    ·obtain ⟨g1, g2⟩ := fin 3 h (by omega) (by decide) (hv.2.2.2 h) (by decide) (by decide) (by decide) (hpow (by omega) 3 h (by omega))
     rw [g1]
     simp only [Option.bind_some, hlk, e3]
     rw [show (decide (0 ≤ (IntKind.i64.wrap ((7 : Int) - ((1 + 3 : Nat) : Int))))) = true by decide, show IntKind.i32.wrap ((1 : Int) * 2 ^ (min (IntKind.i64.wrap ((7 : Int) - ((1 + 3 : Nat) : Int))).toNat IntKind.i32.bits)) = 2 ^ (6 - 3) by decide]
     simp only [cond_true, show ((2 : Int) ^ (6 - 3) != 0) = true by decide, g2, Option.bind_some, h]
abbrev Pt := Int × (Int × Int)
def pts : Nat → List Int → Int → List Pt
  | 0, _, _ => []
  | _ + 1, [], _ => []
  | k + 1, c :: xs, a => ((front (c :: xs)).1, (a, (((front (c :: xs)).2.1 : Nat) : Int))) :: pts k ((c :: xs).drop (front (c :: xs)).2.1) (a + ((front (c :: xs)).2.1 : Nat))
def wr : Nat → List Int → Int → List Pt × (List Int × Int)
  | 0, all, a => ([], (all, a))
  | _ + 1, [], a => ([], ([], a))
  | k + 1, c :: xs, a => if (front (c :: xs)).2.2 then ([], (c :: xs, a)) else
    ((
     (front (c :: xs)).1, (a, (((front (c :: xs)).2.1 : Nat) : Int))) :: (wr k ((c :: xs).drop (front (c :: xs)).2.1) (a + ((front (c :: xs)).2.1 : Nat))).1,
     (wr k ((c :: xs).drop (front (c :: xs)).2.1) (a + ((front (c :: xs)).2.1 : Nat))).2)
theorem front_w (c : Int) (xs : List Int) : 1 ≤ (front (c :: xs)).2.1 ∧ (front (c :: xs)).2.1 ≤ xs.length + 1 ∧ ((front (c :: xs)).2.2 = true → (front (c :: xs)).1 = 65533 ∧ (front (c :: xs)).2.1 = xs.length + 1) := by
  simp only [front]
  cases bd c with
  | none => simp
  | some q =>
   obtain ⟨r, bs⟩ := q
   simp only
   have h := mt_le bs xs
   by_cases hm : mt bs xs < bs.length
   ·simp only [if_pos hm, decide_eq_true_eq]
    exact ⟨by omega, by omega, fun h => ⟨trivial, by omega⟩⟩
   ·simp only [if_neg hm]
    exact ⟨by omega, by omega, fun h => by cases h⟩
theorem pts_wr : ∀ (k : Nat) (all : List Int) (a : Int), all.length ≤ k → pts k all a = (wr k all a).1 ++ (match (wr k all a).2.1 with | [] => [] | y :: ys => [(65533, ((wr k all a).2.2, ((y :: ys).length : Int)))])
  | 0, all, a, h => by
   have : all = [] := List.eq_nil_of_length_eq_zero (by omega)
   subst this; rfl
  | k + 1, [], a, h => rfl
  | k + 1, c :: xs, a, h => by
   obtain ⟨h1, h2, h3⟩ := front_w c xs
   simp only [List.length_cons] at h
   simp only [pts, wr]
   cases hm : (front (c :: xs)).2.2 with
   | true =>
    obtain ⟨h4, h5⟩ := h3 hm
    simp only [if_true, List.nil_append]
    rw [h4, h5]
    have : (c :: xs).drop (xs.length + 1) = [] := by simp
    rw [this]
    have : ∀ a, pts k [] a = [] := fun a => by cases k <;> rfl
    rw [this]
    simp
   | false =>
    have ih := pts_wr k ((c :: xs).drop (front (c :: xs)).2.1) (a + ((front (c :: xs)).2.1 : Nat)) (by simp; omega)
    simp only [Bool.false_eq_true, if_false, List.cons_append]
    rw [ih]
theorem wr_bound : ∀ (k : Nat) (all : List Int) (a : Int), (wr k all a).1.length + (wr k all a).2.1.length ≤ all.length ∧ a ≤ (wr k all a).2.2 ∧ (wr k all a).2.2 + (wr k all a).2.1.length = a + all.length
  | 0, all, a => by simp [wr]
  | k + 1, [], a => by simp [wr]
  | k + 1, c :: xs, a => by
   obtain ⟨h1, h2, h3⟩ := front_w c xs
   simp only [wr]
   split
   ·simp
   ·obtain ⟨g1, g2, g3⟩ := wr_bound k ((c :: xs).drop (front (c :: xs)).2.1) (a + ((front (c :: xs)).2.1 : Nat))
    simp only [List.length_drop, List.length_cons] at g1 g2 g3 ⊢
    refine ⟨by omega, by omega, ?_⟩
    rw [g3]; omega
theorem room24 {n : Nat} (h : n ≤ 100000000) : roomOk n 24 = true := by simp [roomOk]; omega
theorem bytes_drop {l : List Int} (h : Bytes l) (n : Nat) : Bytes (l.drop n) := fun x hx => h x (List.mem_of_mem_drop hx)
theorem wr_loop : ∀ (k : Nat) (all : List Int) (l : List Pt) (a : Int) (n : Nat), all.length ≤ k → Bytes all → l.length + all.length ≤ 20000000 → 0 ≤ a → a + all.length ≤ 40000000 → k < n →
   iterN (fun x => utfWrite_s4 x.1 x.2.1 x.2.2.1) n (((), (a, false)), (all, (l, ()))) = some (((), ((wr k all a).2.2, false)), ((wr k all a).2.1, (l ++ (wr k all a).1, ()))) := by
  intro k
  induction k with
  | zero =>
   intro all l a n h1 hb h2 h3 h4 hn
   obtain ⟨n, rfl⟩ := succ_of hn
   have : all = [] := List.eq_nil_of_length_eq_zero (by omega)
   subst this
   refine iterN_inr ?_
   simp [utfWrite_s4, wr]
  | succ k ih =>
   intro all l a n h1 hb h2 h3 h4 hn
   obtain ⟨n, rfl⟩ := succ_of hn
   cases all with
   | nil =>
    refine iterN_inr ?_
    simp [utfWrite_s4, wr]
   | cons c xs =>
    simp only [List.length_cons] at h1 h2 h4
    have h0 : (((c :: xs).length : Nat) : Int) > 0 := by simp
    have ho := one_is c xs hb (by omega)
    obtain ⟨w1, w2, w3⟩ := front_w c xs
    simp only [wr]
    cases hm : (front (c :: xs)).2.2 with
    | true =>
     rw [hm] at ho
     simp only [if_true, List.append_nil]
     refine iterN_inr ?_
     simp only [utfWrite_s4, h0, decide_true, cond_true, Option.bind_some, ho]
    | false =>
     rw [hm] at ho
     simp only [Bool.false_eq_true, if_false]
     have e1 : inB (((front (c :: xs)).2.1 : Nat) : Int) ((c :: xs).length : Int) (c :: xs).length = true := by
      simp only [inB, Bool.and_eq_true, decide_eq_true_eq, List.length_cons]; omega
     have e2 : ((c :: xs).drop (((front (c :: xs)).2.1 : Nat) : Int).toNat).take (((c :: xs).length : Int) - (((front (c :: xs)).2.1 : Nat) : Int)).toNat = (c :: xs).drop (front (c :: xs)).2.1 := by
      rw [Int.toNat_natCast]
      apply List.take_of_length_le
      simp only [List.length_drop, List.length_cons]; omega
     have e3 : IntKind.i64.wrap (a + (((front (c :: xs)).2.1 : Nat) : Int)) = a + ((front (c :: xs)).2.1 : Nat) := wrap64 (by omega) (by omega)
     have hs := ih ((c :: xs).drop (front (c :: xs)).2.1) (l ++ [((front (c :: xs)).1, (a, (((front (c :: xs)).2.1 : Nat) : Int)))]) (a + ((front (c :: xs)).2.1 : Nat)) n (by simp; omega) (bytes_drop hb _) (by simp; omega) (by omega) (by simp; omega) (by omega)
     rw [List.append_assoc, List.singleton_append] at hs
     have hr : roomOk (l.length + [((front (c :: xs)).1, (a, (((front (c :: xs)).2.1 : Nat) : Int)))].length) 24 = true := room24 (by simp; omega)
     refine (iterN_inl ?_).trans hs
     simp only [utfWrite_s4, h0, decide_true, cond_true, cond_false, Option.bind_some, ho, hr, e1, e2, e3]
theorem room1 {n : Nat} (h : n ≤ 200000000) : roomOk n 1 = true := by simp [roomOk]; omega
theorem utfDecode_is (b : List Int) (hb : Bytes b) (hl : b.length ≤ 10000000) : utfDecode b = some ((), (pts b.length b 0, ())) := by
  have hw := wr_loop b.length b [] 0 fuN (Nat.le_refl _) hb (by simp; omega) (by omega) (by omega) (by have := fuN_le; omega)
  obtain ⟨g1, g2, g3⟩ := wr_bound b.length b 0
  have hp := pts_wr b.length b 0 (Nat.le_refl _)
  generalize wr b.length b 0 = q at *
  obtain ⟨l, rest, a⟩ := q
  simp only [List.nil_append] at hw
  simp only at g1 g2 g3 hp
  have r1 : roomOk (([] : List Int).length + b.length) 1 = true := room1 (by simp; omega)
  have r2 : roomOk rest.length 1 = true := room1 (by omega)
  simp only [utfDecode, utfNew, Option.bind_some, utfWrite, cond_false, r1, cond_true, List.nil_append, hw, r2]
  cases rest with
  | nil =>
   have r3 : roomOk (l.length + ([] : List Pt).length) 24 = true := room24 (by simp at g1 ⊢; omega)
   simp only [utfClose, cond_false, Option.bind_some, List.length_nil, show ((((0 : Nat) : Int)) == (0 : Int)) = true from rfl, cond_true]
   rw [hp]
   simp at r3
   simp [r3]
  | cons y ys =>
   have h0 : (((((y :: ys).length : Nat) : Int)) == (0 : Int)) = false := by simp; omega
   have r3 : roomOk (l.length + [((65533 : Int), (a, (((y :: ys).length : Nat) : Int)))].length) 24 = true := room24 (by simp at g1 ⊢; omega)
   simp only [utfClose, cond_false, Option.bind_some, h0, r3, cond_true]
   rw [hp]
theorem dec_loop (b : List Int) (hb : Bytes b) (hL : b.length ≤ 10000000) : ∀ (k : Nat) (all pre : List Int) (l : List Pt) (n : Nat), b = pre ++ all → all.length ≤ k → l.length + all.length ≤ 20000000 → k < n →
   ∃ y, iterN (fun x => decode1_s2 x.1 x.2.1 x.2.2.1 x.2.2.2.1) n (b, (false, (l, (((pre.length : Nat) : Int), ())))) = some y ∧ (y = .inl (l ++ pts k all (pre.length : Int), ()) ∨ y = .inr (l ++ pts k all (pre.length : Int), ())) := by
  intro k
  induction k with
  | zero =>
   intro all pre l n hbe h1 h2 hn
   obtain ⟨n, rfl⟩ := succ_of hn
   have : all = [] := List.eq_nil_of_length_eq_zero (by omega)
   subst this
   have h0 : ¬ ((pre.length : Nat) : Int) < (b.length : Int) := by rw [hbe]; simp
   refine ⟨_, iterN_inr ?_, .inr (by simp [pts]; rfl)⟩
   simp only [decode1_s2, h0, decide_false, cond_false, Option.bind_some]
  | succ k ih =>
   intro all pre l n hbe h1 h2 hn
   obtain ⟨n, rfl⟩ := succ_of hn
   cases all with
   | nil =>
    have h0 : ¬ ((pre.length : Nat) : Int) < (b.length : Int) := by rw [hbe]; simp
    refine ⟨_, iterN_inr ?_, .inr (by simp [pts]; rfl)⟩
    simp only [decode1_s2, h0, decide_false, cond_false, Option.bind_some]
   | cons c xs =>
    simp only [List.length_cons] at h1 h2
    have hlen : b.length = pre.length + xs.length + 1 := by rw [hbe]; simp; omega
    have h0 : ((pre.length : Nat) : Int) < (b.length : Int) := by omega
    have ho := at_is pre c xs (by rw [← hbe]; exact hb) (by rw [← hbe]; omega)
    rw [← hbe] at ho
    obtain ⟨w1, w2, w3⟩ := front_w c xs
    have e1 : pre ++ c :: xs = (pre ++ (c :: xs).take (front (c :: xs)).2.1) ++ (c :: xs).drop (front (c :: xs)).2.1 := by rw [List.append_assoc, List.take_append_drop]
    have e2 : (pre ++ (c :: xs).take (front (c :: xs)).2.1).length = pre.length + (front (c :: xs)).2.1 := by simp; omega
    obtain ⟨y, g1, g2⟩ := ih ((c :: xs).drop (front (c :: xs)).2.1) (pre ++ (c :: xs).take (front (c :: xs)).2.1) (l ++ [((front (c :: xs)).1, ((pre.length : Int), (((front (c :: xs)).2.1 : Nat) : Int)))]) n (by rw [hbe, e1]) (by simp; omega) (by simp; omega) (by omega)
    rw [e2] at g1 g2
    have e3 : IntKind.i64.wrap (((pre.length : Nat) : Int) + (((front (c :: xs)).2.1 : Nat) : Int)) = ((pre.length + (front (c :: xs)).2.1 : Nat) : Int) := by rw [wrap64] <;> omega
    have e4 : ((pre.length + (front (c :: xs)).2.1 : Nat) : Int) = (pre.length : Int) + ((front (c :: xs)).2.1 : Nat) := by omega
    rw [List.append_assoc, List.singleton_append, e4] at g2
    have hr : roomOk (l.length + [((front (c :: xs)).1, ((pre.length : Int), (((front (c :: xs)).2.1 : Nat) : Int)))].length) 24 = true := room24 (by simp; omega)
    refine ⟨y, (iterN_inl ?_).trans g1, g2⟩
    simp only [decode1_s2, h0, decide_true, cond_true, cond_false, Option.bind_some, ho, hr, e3]
theorem decode1_is (b : List Int) (hb : Bytes b) (hl : b.length ≤ 10000000) : decode1 b false = some ((), (pts b.length b 0, ())) := by
  obtain ⟨y, h1, h2⟩ := dec_loop b hb hl b.length b [] [] fuN rfl (Nat.le_refl _) (by simp; omega) (by have := fuN_le; omega)
  have h1' : iterN (fun x => decode1_s2 x.1 x.2.1 x.2.2.1 x.2.2.2.1) fuN (b, (false, (([] : List Pt), ((0 : Int), ())))) = some y := h1
  simp only [decode1, h1', Option.bind_some]
  rcases h2 with rfl | rfl <;> rfl
def runes (b : List Int) : List Int := (pts b.length b 0).map (·.1)
theorem pts_length : ∀ (k : Nat) (b : List Int) (a : Int), (pts k b a).length ≤ b.length
  | 0, b, a => by simp [pts]
  | k + 1, [], a => by simp [pts]
  | k + 1, c :: xs, a => by
   obtain ⟨w1, w2, w3⟩ := front_w c xs
   have := pts_length k ((c :: xs).drop (front (c :: xs)).2.1) (a + ((front (c :: xs)).2.1 : Nat))
   simp only [pts, List.length_cons, List.length_drop] at this ⊢
   omega
theorem runes_length (b : List Int) : (runes b).length ≤ b.length := by simp only [runes, List.length_map]; exact pts_length _ _ _
theorem runes_loop : ∀ (rest pre : List Pt) (g : List Int) (n : Nat), pre.length + rest.length ≤ 20000000 → g.length + rest.length ≤ 20000000 → rest.length < n →
   iterN (fun x => runes1_s3 x.1 x.2.1 x.2.2.1) n (g, (pre ++ rest, (((pre.length : Nat) : Int), ()))) = some (g ++ rest.map (·.1), ()) := by
  intro rest
  induction rest with
  | nil =>
   intro pre g n h1 h2 hn
   obtain ⟨n, rfl⟩ := succ_of hn
   refine iterN_inr ?_
   simp [runes1_s3]
  | cons r rest ih =>
   intro pre g n h1 h2 hn
   simp only [List.length_cons] at h1 h2 hn
   obtain ⟨n, rfl⟩ := succ_of hn
   have hlt : ((pre.length : Nat) : Int) < ((pre ++ r :: rest).length : Int) := lt_mid
   have ew : IntKind.i64.wrap (((pre.length : Nat) : Int) + 1) = (((pre ++ [r]).length : Nat) : Int) := w_mid (by omega)
   have hs := ih (pre ++ [r]) (g ++ [r.1]) n (by simp; omega) (by simp; omega) (by omega)
   rw [show (pre ++ [r]) ++ rest = pre ++ r :: rest by simp, show (g ++ [r.1]) ++ rest.map (·.1) = g ++ (r :: rest).map (·.1) by simp] at hs
   have hr : roomOk (g.length + [r.1].length) 4 = true := by simp [roomOk]; omega
   refine (iterN_inl ?_).trans hs
   simp only [runes1_s3, hlt, decide_true, cond_true, lk_mid, Option.bind_some, hr, ew]
theorem runes1_is (b : List Int) (hb : Bytes b) (hl : b.length ≤ 10000000) : runes1 b = some ((), (runes b, ())) := by
  have hp := pts_length b.length b 0
  have h1 := runes_loop (pts b.length b 0) [] [] fuN (by simp; omega) (by simp; omega) (by have := fuN_le; omega)
  have h1' : iterN (fun x => runes1_s3 x.1 x.2.1 x.2.2.1) fuN (([] : List Int), (pts b.length b 0, ((0 : Int), ()))) = some (runes b, ()) := h1
  simp only [runes1, decode1_is b hb hl, Option.bind_some, h1']
def vld (r : Int) : Bool := decide (0 ≤ r) && (decide (r ≤ 1114111) && (decide (r < 55296) || decide (r > 57343)))
def encR (r : Int) : List Int :=
  if r < 128 then [r]
  else if r < 2048 then [192 + r / 64, 128 + r % 64]
  else if r < 65536 then [224 + r / 4096, 128 + r / 64 % 64, 128 + r % 64]
  else [240 + r / 262144, 128 + r / 4096 % 64, 128 + r / 64 % 64, 128 + r % 64]
def fix (r : Int) : Int := if vld r then r else 65533
def enc (l : List Int) : List Int := l.flatMap fun r => encR (fix r)
theorem fix_ok (r : Int) : 0 ≤ fix r ∧ fix r ≤ 1114111 := by
  unfold fix vld
  split
  ·rename_i h
   simp only [Bool.and_eq_true, decide_eq_true_eq] at h
   exact ⟨h.1, h.2.1⟩
  ·exact ⟨by decide, by decide⟩
theorem encR_length (r : Int) : 1 ≤ (encR r).length ∧ (encR r).length ≤ 4 := by
  unfold encR
  split
  ·simp
  split
  ·simp
  split <;> simp
theorem utfValid_is (r : Int) : utfValid r = some ((), (vld r, ())) := by
  by_cases h1 : 0 ≤ r <;> by_cases h2 : r ≤ 1114111 <;> by_cases h3 : r < 55296 <;> simp [utfValid, vld, h1, h2, h3]
theorem valid1_is (r : Int) : valid1 r = some ((), (vld r, ())) := by
  by_cases h1 : 0 ≤ r <;> by_cases h2 : r < 1114112 <;> by_cases h3 : 55296 ≤ r <;> simp [valid1, vld, h1, h2, h3] <;> (try omega) <;> (by_cases h4 : r < 57344 <;> simp [h4] <;> omega)
theorem u8id {x : Int} (h : Byte x) : IntKind.u8.wrap x = x := by
  have := h.1; have := h.2
  simp only [IntKind.wrap, IntKind.signed, IntKind.bits]
  simp
  omega
def orB (m : Int) (x : Int) : Int := IntKind.u8.wrap (((BitVec.ofInt IntKind.u8.bits m ||| BitVec.ofInt IntKind.u8.bits x).toNat : Int))
theorem or128 (x : Int) (h0 : 0 ≤ x) (h1 : x < 64) : orB 128 x = 128 + x := by
  have := byte_all (p := fun x => decide (64 ≤ x) || decide (orB 128 x = 128 + x)) (by kernel_rfl) x ⟨h0, by omega⟩
  simp only [Bool.or_eq_true, decide_eq_true_eq] at this
  exact this.resolve_left (by omega)
theorem or192 (x : Int) (h0 : 0 ≤ x) (h1 : x < 32) : orB 192 x = 192 + x := by
  have := byte_all (p := fun x => decide (32 ≤ x) || decide (orB 192 x = 192 + x)) (by kernel_rfl) x ⟨h0, by omega⟩
  simp only [Bool.or_eq_true, decide_eq_true_eq] at this
  exact this.resolve_left (by omega)
theorem or224 (x : Int) (h0 : 0 ≤ x) (h1 : x < 16) : orB 224 x = 224 + x := by
  have := byte_all (p := fun x => decide (16 ≤ x) || decide (orB 224 x = 224 + x)) (by kernel_rfl) x ⟨h0, by omega⟩
  simp only [Bool.or_eq_true, decide_eq_true_eq] at this
  exact this.resolve_left (by omega)
theorem or240 (x : Int) (h0 : 0 ≤ x) (h1 : x < 8) : orB 240 x = 240 + x := by
  have := byte_all (p := fun x => decide (8 ≤ x) || decide (orB 240 x = 240 + x)) (by kernel_rfl) x ⟨h0, by omega⟩
  simp only [Bool.or_eq_true, decide_eq_true_eq] at this
  exact this.resolve_left (by omega)
theorem and63' (r : Int) (h0 : 0 ≤ r) (h1 : r < 2147483648) : IntKind.i32.wrap (((BitVec.ofInt IntKind.i32.bits r &&& BitVec.ofInt IntKind.i32.bits (63 : Int)).toNat : Int)) = r % 64 := by
  obtain ⟨a, rfl⟩ : ∃ a : Nat, r = (a : Int) := ⟨r.toNat, by omega⟩
  have e : (BitVec.ofInt 32 ((a : Nat) : Int) &&& BitVec.ofInt 32 ((63 : Nat) : Int)).toNat = a % 64 := by
   simp only [BitVec.ofInt_natCast, BitVec.toNat_and, BitVec.toNat_ofNat]
   rw [Nat.mod_eq_of_lt (show a < 2 ^ 32 by omega), show 63 % 2 ^ 32 = 2 ^ 6 - 1 by decide, Nat.and_two_pow_sub_one_eq_mod]
  show IntKind.i32.wrap (((BitVec.ofInt 32 ((a : Nat) : Int) &&& BitVec.ofInt 32 ((63 : Nat) : Int)).toNat : Int)) = _
  rw [e, wrap32' (by omega) (by omega)]
  omega
theorem p6 : (2 : Int) ^ (min (6 : Int).toNat IntKind.i32.bits) = 64 := by decide
theorem p12 : (2 : Int) ^ (min (12 : Int).toNat IntKind.i32.bits) = 4096 := by decide
theorem p18 : (2 : Int) ^ (min (18 : Int).toNat IntKind.i32.bits) = 262144 := by decide
theorem fdiv_pos {r m : Int} (h0 : 0 ≤ r) (hm : 0 < m) : Int.fdiv r m = r / m := by rw [Int.fdiv_eq_ediv_of_nonneg _ (by omega)]
theorem enc_loop : ∀ (rest pre g : List Int) (n : Nat), pre.length + rest.length ≤ 20000000 → g.length + 4 * rest.length ≤ 100000000 → rest.length < n →
   iterN (fun x => utfEncode_s2 x.1 x.2.1 x.2.2.1 x.2.2.2.1) n (g, (pre ++ rest, (((pre ++ rest).length : Int), (((pre.length : Nat) : Int), ())))) = some (g ++ enc rest, ()) := by
  intro rest
  induction rest with
  | nil =>
   intro pre g n h1 h2 hn
   obtain ⟨n, rfl⟩ := succ_of hn
   refine iterN_inr ?_
   simp [utfEncode_s2, enc]
  | cons r rest ih =>
   intro pre g n h1 h2 hn
   simp only [List.length_cons] at h1 h2 hn
   obtain ⟨n, rfl⟩ := succ_of hn
   have hlt : ((pre.length : Nat) : Int) < ((pre ++ r :: rest).length : Int) := lt_mid
   have ew : IntKind.i64.wrap (((pre.length : Nat) : Int) + 1) = (((pre ++ [r]).length : Nat) : Int) := w_mid (by omega)
   obtain ⟨l1, l2⟩ := encR_length (fix r)
   have hs := ih (pre ++ [r]) (g ++ encR (fix r)) n (by simp; omega) (by simp; omega) (by omega)
   rw [show (pre ++ [r]) ++ rest = pre ++ r :: rest by simp, show (g ++ encR (fix r)) ++ enc rest = g ++ enc (r :: rest) by simp [enc]] at hs
   refine (iterN_inl ?_).trans hs
   obtain ⟨f1, f2⟩ := fix_ok r
   have hv : (bif (!vld r) then (some (g, ((65533 : Int), (pre ++ r :: rest, (((pre ++ r :: rest).length : Int), (((pre.length : Nat) : Int), ()))))) : Option (List Int × (Int × (List Int × (Int × (Int × Unit)))))) else
     some (g, (r, (pre ++ r :: rest, (((pre ++ r :: rest).length : Int), (((pre.length : Nat) : Int), ())))))) = some (g, (fix r, (pre ++ r :: rest, (((pre ++ r :: rest).length : Int), (((pre.length : Nat) : Int), ()))))) := by
    unfold fix
    cases vld r <;> rfl
   have hroom : ∀ l : List Int, l.length ≤ 4 → roomOk (g.length + l.length) 1 = true := fun l h => room1 (by omega)
   simp only [utfEncode_s2, hlt, decide_true, cond_true, lk_mid, Option.bind_some, utfValid_is, hv, ew]
   generalize fix r = q at *
   have c6 := fdiv_pos f1 (m := 64) (by decide)
   have c12 := fdiv_pos f1 (m := 4096) (by decide)
   have c18 := fdiv_pos f1 (m := 262144) (by decide)
   simp only [p6, p12, p18, c6, c12, c18, show decide (0 ≤ (6 : Int)) = true from rfl, show decide (0 ≤ (12 : Int)) = true from rfl, show decide (0 ≤ (18 : Int)) = true from rfl, cond_true]
   have a1 := and63' q f1 (by omega)
   have a2 := and63' (q / 64) (by omega) (by omega)
   have a3 := and63' (q / 4096) (by omega) (by omega)
   have m1 := or128 (q % 64) (by omega) (by omega)
   have m2 := or128 (q / 64 % 64) (by omega) (by omega)
   have m3 := or128 (q / 4096 % 64) (by omega) (by omega)
   simp only [orB] at m1 m2 m3
   simp only [a1, a2, a3, u8id (x := q % 64) ⟨by omega, by omega⟩, u8id (x := q / 64 % 64) ⟨by omega, by omega⟩, u8id (x := q / 4096 % 64) ⟨by omega, by omega⟩, m1, m2, m3]
   unfold encR
   by_cases d1 : q < 128
   ·have := u8id (x := q) ⟨f1, by omega⟩
    simp only [d1, decide_true, cond_true, this, hroom [q] (by simp), if_true]
   ·by_cases d2 : q < 2048
    ·have n1 := or192 (q / 64) (by omega) (by omega)
     simp only [orB] at n1
     have := u8id (x := q / 64) ⟨by omega, by omega⟩
     simp only [d1, d2, decide_true, decide_false, cond_true, cond_false, this, n1, hroom [192 + q / 64, 128 + q % 64] (by simp), if_true, if_false]
    ·by_cases d3 : q < 65536
     ·have n1 := or224 (q / 4096) (by omega) (by omega)
      simp only [orB] at n1
      have := u8id (x := q / 4096) ⟨by omega, by omega⟩
      simp only [d1, d2, d3, decide_true, decide_false, cond_true, cond_false, this, n1, hroom [224 + q / 4096, 128 + q / 64 % 64, 128 + q % 64] (by simp), if_true, if_false]
     ·have n1 := or240 (q / 262144) (by omega) (by omega)
      simp only [orB] at n1
      have := u8id (x := q / 262144) ⟨by omega, by omega⟩
      simp only [d1, d2, d3, decide_false, cond_true, cond_false, this, n1, hroom [240 + q / 262144, 128 + q / 4096 % 64, 128 + q / 64 % 64, 128 + q % 64] (by simp), if_false]
theorem utfEncode_is (l : List Int) (h : l.length ≤ 10000000) : utfEncode l = some ((), (enc l, ())) := by
  have h1 := enc_loop l [] [] fuN (by simp; omega) (by simp; omega) (by have := fuN_le; omega)
  have h1' : iterN (fun x => utfEncode_s2 x.1 x.2.1 x.2.2.1 x.2.2.2.1) fuN (([] : List Int), (l, ((l.length : Int), ((0 : Int), ())))) = some (enc l, ()) := h1
  simp only [utfEncode, h1', Option.bind_some]
theorem put1_is (g : List Int) (r : Int) (hg : g.length ≤ 100000000) : put1 g r = some ((), (g ++ encR (fix r), ())) := by
  obtain ⟨f1, f2⟩ := fix_ok r
  have hv : (bif (!vld r) then (some (g, ((65533 : Int), ())) : Option (List Int × (Int × Unit))) else some (g, (r, ()))) = some (g, (fix r, ())) := by
   unfold fix
   cases vld r <;> rfl
  have hroom : ∀ l : List Int, l.length ≤ 4 → roomOk (g.length + l.length) 1 = true := fun l h => room1 (by omega)
  simp only [put1, valid1_is, Option.bind_some, hv]
  generalize fix r = q at *
  have t1 : Int.tdiv q 64 = q / 64 := Int.tdiv_eq_ediv_of_nonneg f1
  have t2 : Int.tdiv q 4096 = q / 4096 := Int.tdiv_eq_ediv_of_nonneg f1
  have t3 : Int.tdiv q 262144 = q / 262144 := Int.tdiv_eq_ediv_of_nonneg f1
  have k1 : IntKind.i32.wrap (q / 64) = q / 64 := wrap32' (by omega) (by omega)
  have k2 : IntKind.i32.wrap (q / 4096) = q / 4096 := wrap32' (by omega) (by omega)
  have k3 : IntKind.i32.wrap (q / 262144) = q / 262144 := wrap32' (by omega) (by omega)
  have e1 : Int.tmod q 64 = q % 64 := Int.tmod_eq_emod_of_nonneg f1
  have e2 : Int.tmod (q / 64) 64 = q / 64 % 64 := Int.tmod_eq_emod_of_nonneg (by omega)
  have e3 : Int.tmod (q / 4096) 64 = q / 4096 % 64 := Int.tmod_eq_emod_of_nonneg (by omega)
  have w1 : IntKind.i32.wrap (128 + q % 64) = 128 + q % 64 := wrap32' (by omega) (by omega)
  have w2 : IntKind.i32.wrap (128 + q / 64 % 64) = 128 + q / 64 % 64 := wrap32' (by omega) (by omega)
  have w3 : IntKind.i32.wrap (128 + q / 4096 % 64) = 128 + q / 4096 % 64 := wrap32' (by omega) (by omega)
  have U1 := u8id (x := 128 + q % 64) ⟨by omega, by omega⟩
  have U2 := u8id (x := 128 + q / 64 % 64) ⟨by omega, by omega⟩
  have U3 := u8id (x := 128 + q / 4096 % 64) ⟨by omega, by omega⟩
  have z1 : ((64 : Int) != 0) = true := rfl
  have z2 : ((4096 : Int) != 0) = true := rfl
  have z3 : ((262144 : Int) != 0) = true := rfl
  unfold encR
  by_cases d1 : q < 128
  ·have := u8id (x := q) ⟨f1, by omega⟩
   simp only [d1, decide_true, cond_true, this, hroom [q] (by simp), if_true, Option.bind_some]
  ·by_cases d2 : q < 2048
   ·have n1 : IntKind.i32.wrap (192 + q / 64) = 192 + q / 64 := wrap32' (by omega) (by omega)
    have := u8id (x := 192 + q / 64) ⟨by omega, by omega⟩
    simp only [t1, k1, e1, w1, U1, z1, z2, z3, d1, d2, decide_true, decide_false, cond_true, cond_false, this, n1, hroom [192 + q / 64, 128 + q % 64] (by simp), if_true, if_false, Option.bind_some]
   ·by_cases d3 : q < 65536
    ·have n1 : IntKind.i32.wrap (224 + q / 4096) = 224 + q / 4096 := wrap32' (by omega) (by omega)
     have := u8id (x := 224 + q / 4096) ⟨by omega, by omega⟩
     simp only [t1, t2, k1, k2, e1, e2, w1, w2, U1, U2, z1, z2, z3, d1, d2, d3, decide_true, decide_false, cond_true, cond_false, this, n1, hroom [224 + q / 4096, 128 + q / 64 % 64, 128 + q % 64] (by simp), if_true, if_false, Option.bind_some]
    ·have n1 : IntKind.i32.wrap (240 + q / 262144) = 240 + q / 262144 := wrap32' (by omega) (by omega)
     have := u8id (x := 240 + q / 262144) ⟨by omega, by omega⟩
     simp only [t1, t2, t3, k1, k2, k3, e1, e2, e3, w1, w2, w3, U1, U2, U3, z1, z2, z3, d1, d2, d3, decide_false, cond_true, cond_false, this, n1, hroom [240 + q / 262144, 128 + q / 4096 % 64, 128 + q / 64 % 64, 128 + q % 64] (by simp), if_false, Option.bind_some]
theorem enc1_loop : ∀ (rest pre g : List Int) (n : Nat), pre.length + rest.length ≤ 20000000 → g.length + 4 * rest.length ≤ 100000000 → rest.length < n →
   iterN (fun x => encode1_s2 x.1 x.2.1 x.2.2.1) n (pre ++ rest, (g, (((pre.length : Nat) : Int), ()))) = some (g ++ enc rest, ()) := by
  intro rest
  induction rest with
  | nil =>
   intro pre g n h1 h2 hn
   obtain ⟨n, rfl⟩ := succ_of hn
   refine iterN_inr ?_
   simp [encode1_s2, enc]
  | cons r rest ih =>
   intro pre g n h1 h2 hn
   simp only [List.length_cons] at h1 h2 hn
   obtain ⟨n, rfl⟩ := succ_of hn
   have hlt : ((pre.length : Nat) : Int) < ((pre ++ r :: rest).length : Int) := lt_mid
   have ew : IntKind.i64.wrap (((pre.length : Nat) : Int) + 1) = (((pre ++ [r]).length : Nat) : Int) := w_mid (by omega)
   obtain ⟨l1, l2⟩ := encR_length (fix r)
   have hs := ih (pre ++ [r]) (g ++ encR (fix r)) n (by simp; omega) (by simp; omega) (by omega)
   rw [show (pre ++ [r]) ++ rest = pre ++ r :: rest by simp, show (g ++ encR (fix r)) ++ enc rest = g ++ enc (r :: rest) by simp [enc]] at hs
   refine (iterN_inl ?_).trans hs
   simp only [encode1_s2, hlt, decide_true, cond_true, lk_mid, Option.bind_some, put1_is g r (by omega), ew]
theorem encode1_is (l : List Int) (h : l.length ≤ 10000000) : encode1 l = some ((), (enc l, ())) := by
  have h1 := enc1_loop l [] [] fuN (by simp; omega) (by simp; omega) (by have := fuN_le; omega)
  have h1' : iterN (fun x => encode1_s2 x.1 x.2.1 x.2.2.1) fuN (l, (([] : List Int), ((0 : Int), ()))) = some (enc l, ()) := h1
  simp only [encode1, h1', Option.bind_some]
abbrev Tx := List UInt8
theorem growS_is (n : Nat) (h : n ≤ 100000000) : growS ((n : Nat) : Int) = some ((), ([], ())) := by
  have h0 : ¬ ((n : Nat) : Int) < 0 := by omega
  have e1 : IntKind.i64.wrap ((0 : Int) - 0) = 0 := by decide
  have e2 : IntKind.i64.wrap (((n : Nat) : Int) - 0) = ((n : Nat) : Int) := by rw [wrap64] <;> omega
  by_cases hn : n = 0
  ·subst hn; rfl
  ·have h1 : ((n : Nat) : Int) > 0 := by omega
   have h2 : inB (0 : Int) (0 : Int) 0 = true := rfl
   have h3 : inB (0 : Int) (0 : Int) (List.replicate (Int.toNat ((n : Nat) : Int)) ([] : List UInt8)).length = true := by simp [inB]
   have h4 : decide (0 ≤ ((n : Nat) : Int)) = true := by simp
   have h5 : roomOk (Int.toNat ((n : Nat) : Int)) 16 = true := roomK (by decide) (by simp; omega)
   simp only [growS, h0, decide_false, cond_false, Option.bind_some, e1, e2, h1, decide_true, cond_true, h2, h3, h4, h5, Bool.and_true]
   rfl
theorem concatS_is (a b : List Tx) (ha : a.length ≤ 10000000) (hb : b.length ≤ 10000000) : concatS [a, b] = some ((), (a ++ b, ())) := by
  obtain ⟨n, hn⟩ : ∃ n, fuN = n + 3 := ⟨fuN - 3, by have := fuN_le; omega⟩
  have w1 : IntKind.i64.wrap ((0 : Int) + (a.length : Int)) = (a.length : Int) := by rw [wrap64] <;> omega
  have w2 : IntKind.i64.wrap ((a.length : Int) + (b.length : Int)) = ((a.length + b.length : Nat) : Int) := by rw [wrap64] <;> omega
  have n1 : ¬ (a.length : Int) < 0 := by omega
  have n2 : ¬ ((a.length + b.length : Nat) : Int) < 0 := by omega
  have i1 : IntKind.i64.wrap ((0 : Int) + 1) = 1 := by decide
  have i2 : IntKind.i64.wrap ((1 : Int) + 1) = 2 := by decide
  have l0 : lk [a, b] (0 : Int) = some a := rfl
  have l1 : lk [a, b] (1 : Int) = some b := rfl
  have hl : (([a, b] : List (List Tx)).length : Int) = 2 := rfl
  have d0 : decide ((0 : Int) < 2) = true := rfl
  have d1 : decide ((1 : Int) < 2) = true := rfl
  have d2 : decide ((2 : Int) < 2) = false := rfl
  have r1 : roomOk (([] : List Tx).length + a.length) 16 = true := roomK (by decide) (by simp; omega)
  have r2 : roomOk (([] ++ a : List Tx).length + b.length) 16 = true := roomK (by decide) (by simp; omega)
  have A : iterN (fun x => concatS_s3 x.1 x.2.1 x.2.2.1 x.2.2.2.1 x.2.2.2.2.1) fuN ([a, b], ((0 : Int), ([a, b], ((([a, b] : List (List Tx)).length : Int), ((0 : Int), ()))))) = some ([a, b], (((a.length + b.length : Nat) : Int), ())) := by
   rw [hn, hl]
   refine (iterN_inl (y := ([a, b], ((a.length : Int), ([a, b], ((2 : Int), ((1 : Int), ())))))) ?_).trans ?_
   ·simp only [concatS_s3, d0, cond_true, l0, Option.bind_some, w1, n1, decide_false, cond_false, i1]
   ·refine (iterN_inl (y := ([a, b], (((a.length + b.length : Nat) : Int), ([a, b], ((2 : Int), ((2 : Int), ())))))) ?_).trans ?_
    ·simp only [concatS_s3, d1, cond_true, l1, Option.bind_some, w2, n2, decide_false, cond_false, i2]
    ·refine iterN_inr ?_
     simp only [concatS_s3, d2, cond_false]
  have B : iterN (fun x => concatS_s10 x.1 x.2.1 x.2.2.1 x.2.2.2.1) fuN (([] : List Tx), ([a, b], ((([a, b] : List (List Tx)).length : Int), ((0 : Int), ())))) = some (a ++ b, ()) := by
   rw [hn, hl]
   refine (iterN_inl (y := (([] ++ a : List Tx), ([a, b], ((2 : Int), ((1 : Int), ()))))) ?_).trans ?_
   ·simp only [concatS_s10, d0, cond_true, l0, Option.bind_some, r1, i1]
   ·refine (iterN_inl (y := ((([] ++ a) ++ b : List Tx), ([a, b], ((2 : Int), ((2 : Int), ()))))) ?_).trans ?_
    ·simp only [concatS_s10, d1, cond_true, l1, Option.bind_some, r2, i2]
    ·refine iterN_inr ?_
     simp only [concatS_s10, d2, cond_false]
     rfl
  simp only [concatS, A, Option.bind_some, growS_is (a.length + b.length) (by omega), B]
def ddtS (u : Tx) : List Tx → List Tx
  | [] => []
  | r :: l => if r = u then ddtS u l else r :: ddtS r l
def cptS : List Tx → List Tx
  | [] => []
  | x :: l => x :: ddtS x l
theorem ddtS_length : ∀ (l : List Tx) (u : Tx), (ddtS u l).length ≤ l.length
  | [], _ => Nat.le_refl _
  | r :: l, u => by
   simp only [ddtS]
   split
   ·have := ddtS_length l u; simp only [List.length_cons]; omega
   ·have := ddtS_length l r; simp only [List.length_cons]; omega
theorem lk_idxS {l : List Tx} {i : Nat} {x : Tx} (h : l[i]? = some x) : lk l (i : Int) = some x := by
  unfold lk
  rw [if_pos (by omega)]
  simpa using h
theorem phaseS2 (start L : Nat) : ∀ (rest : List Tx) (u : Tx) (W M : List Tx) (k2 n : Nat), W.length + M.length + 1 + rest.length = start + L → start + k2 = W.length + M.length + 1 → start + L ≤ 200000000 → 0 < k2 → rest.length < n →
   ∃ g, iterN (fun x => compactS_s14 x.1 x.2.1 x.2.2.1 x.2.2.2.1) n (W ++ M ++ u :: rest, (((W.length : Nat) : Int), (((start, L) : Nat × Nat), (((k2 : Nat) : Int), ())))) = some (g, ((((W ++ ddtS u rest).length : Nat) : Int), ())) ∧
    g.take (W ++ ddtS u rest).length = W ++ ddtS u rest ∧ g.length = start + L := by
  intro rest
  induction rest with
  | nil =>
   intro u W M k2 n h1 h2 h3 h0 hn
   obtain ⟨n, rfl⟩ := succ_of hn
   simp only [List.length_nil] at h1
   have hlt : ¬ ((k2 : Nat) : Int) < ((L : Nat) : Int) := by omega
   refine ⟨W ++ M ++ [u], iterN_inr ?_, by simp [ddtS], by simp; omega⟩
   simp only [compactS_s14, hlt, decide_false, cond_false, ddtS, List.append_nil, Option.bind_some]
  | cons r rest ih =>
   intro u W M k2 n h1 h2 h3 h0 hn
   simp only [List.length_cons] at h1 hn
   obtain ⟨n, rfl⟩ := succ_of hn
   have hlt : ((k2 : Nat) : Int) < ((L : Nat) : Int) := by omega
   have i1 : inR ((k2 : Nat) : Int) L = true := by simp only [inR, Bool.and_eq_true, decide_eq_true_eq]; omega
   have w1 : IntKind.i64.wrap (((k2 : Nat) : Int) - 1) = ((k2 - 1 : Nat) : Int) := w_pred' h0 (by omega)
   have i2 : inR ((k2 - 1 : Nat) : Int) L = true := by simp only [inR, Bool.and_eq_true, decide_eq_true_eq]; omega
   have p1 : plusI start ((k2 : Nat) : Int) = ((W.length + M.length + 1 : Nat) : Int) := by simp only [plusI]; omega
   have p2 : plusI start ((k2 - 1 : Nat) : Int) = ((W.length + M.length : Nat) : Int) := by simp only [plusI]; omega
   have l1 : lk (W ++ M ++ u :: r :: rest) ((W.length + M.length + 1 : Nat) : Int) = some r := lk_idxS (by
    rw [List.getElem?_append_right (by simp)]; simp)
   have l2 : lk (W ++ M ++ u :: r :: rest) ((W.length + M.length : Nat) : Int) = some u := lk_idxS (by
    rw [List.getElem?_append_right (by simp)]; simp)
   have w2 : IntKind.i64.wrap (((k2 : Nat) : Int) + 1) = ((k2 + 1 : Nat) : Int) := w_succ (by omega)
   by_cases hc : r = u
   ·subst hc
    obtain ⟨g, g1, g2, g3⟩ := ih r W (M ++ [r]) (k2 + 1) n (by simp; omega) (by simp; omega) h3 (by omega) (by omega)
    have e : W ++ (M ++ [r]) ++ r :: rest = W ++ M ++ r :: r :: rest := by simp
    rw [e] at g1
    have hd : ddtS r (r :: rest) = ddtS r rest := by simp [ddtS]
    rw [hd]
    refine ⟨g, (iterN_inl ?_).trans g1, g2, g3⟩
    have hb : (!(r == r)) = false := by simp
    simp only [compactS_s14, hlt, decide_true, cond_true, cond_false, i1, i2, w1, p1, p2, l1, l2, Option.bind_some, hb, w2]
   ·have hd : ddtS u (r :: rest) = r :: ddtS r rest := by simp [ddtS, hc]
    rw [hd]
    obtain ⟨h, T, hT⟩ : ∃ h T, M ++ [u] = h :: T := by cases M with | nil => exact ⟨u, [], rfl⟩ | cons m M => exact ⟨m, M ++ [u], rfl⟩
    have hTl : T.length = M.length := by have := congrArg List.length hT; simp at this; omega
    have eg : W ++ M ++ u :: r :: rest = W ++ h :: (T ++ r :: rest) := by
     rw [show W ++ M ++ u :: r :: rest = W ++ ((M ++ [u]) ++ r :: rest) by simp, hT]; simp
    have l3 : lk (W ++ M ++ u :: r :: rest) ((W.length : Nat) : Int) = some h := by rw [eg]; exact lk_mid
    have hset : (W ++ M ++ u :: r :: rest).set ((W.length : Nat) : Int).toNat r = (W ++ [r]) ++ T ++ r :: rest := by
     rw [eg, Int.toNat_natCast, List.set_append_right _ _ (Nat.le_refl _)]; simp
    obtain ⟨g, g1, g2, g3⟩ := ih r (W ++ [r]) T (k2 + 1) n (by simp; omega) (by simp; omega) h3 (by omega) (by omega)
    have e2 : (W ++ [r]) ++ ddtS r rest = W ++ r :: ddtS r rest := by simp
    rw [e2] at g1 g2
    refine ⟨g, (iterN_inl ?_).trans g1, g2, g3⟩
    have hb : (!(r == u)) = true := by simp [hc]
    have w3 : IntKind.i64.wrap (((W.length : Nat) : Int) + 1) = (((W ++ [r]).length : Nat) : Int) := w_mid (by omega)
    simp only [compactS_s14, hlt, decide_true, cond_true, i1, i2, w1, p1, p2, l1, l2, l3, Option.bind_some, hb, w2, w3, hset]
theorem phaseS1 : ∀ (rest : List Tx) (p : Tx) (pre : List Tx) (n : Nat), pre.length + rest.length ≤ 100000000 → rest.length < n →
   ∃ y, iterN (fun x => compactS_s4 x.1 x.2.1) n (pre ++ p :: rest, (((pre.length + 1 : Nat) : Int), ())) = some y ∧
    (y = .inl (pre ++ p :: ddtS p rest, ()) ∨ y = .inr (pre ++ p :: ddtS p rest, ())) := by
  intro rest
  induction rest with
  | nil =>
   intro p pre n h1 hn
   obtain ⟨n, rfl⟩ := succ_of hn
   have hlt : ¬ ((pre.length + 1 : Nat) : Int) < ((pre ++ [p]).length : Int) := by simp
   refine ⟨_, iterN_inr ?_, .inr rfl⟩
   simp only [compactS_s4, hlt, decide_false, cond_false, ddtS, Option.bind_some]
  | cons q rest ih =>
   intro p pre n h1 hn
   simp only [List.length_cons] at h1 hn
   obtain ⟨n, rfl⟩ := succ_of hn
   have hlen : (pre ++ p :: q :: rest).length = pre.length + rest.length + 2 := by simp; omega
   have hlt : ((pre.length + 1 : Nat) : Int) < ((pre ++ p :: q :: rest).length : Int) := by rw [hlen]; omega
   have l1 : lk (pre ++ p :: q :: rest) ((pre.length + 1 : Nat) : Int) = some q := lk_idxS (by rw [List.getElem?_append_right (by omega)]; simp)
   have w1 : IntKind.i64.wrap (((pre.length + 1 : Nat) : Int) - 1) = ((pre.length : Nat) : Int) := w_pred (by omega)
   have l2 : lk (pre ++ p :: q :: rest) ((pre.length : Nat) : Int) = some p := lk_mid
   by_cases hc : q = p
   ·subst hc
    have hb : (q == q) = true := by simp
    have hin : inB ((pre.length + 1 : Nat) : Int) ((pre ++ q :: q :: rest).length : Int) (pre ++ q :: q :: rest).length = true := by
     simp only [inB, hlen, Bool.and_eq_true, decide_eq_true_eq]; omega
    have hL : ((((pre ++ q :: q :: rest).length : Nat) : Int) - ((pre.length + 1 : Nat) : Int)).toNat = rest.length + 1 := by rw [hlen]; omega
    obtain ⟨g, g1, g2, g3⟩ := phaseS2 (pre.length + 1) (rest.length + 1) rest q (pre ++ [q]) [] 1 fuN (by simp; omega) (by simp) (by omega) (by omega) (by have := fuN_le; omega)
    have eg : (pre ++ [q]) ++ [] ++ q :: rest = pre ++ q :: q :: rest := by simp
    rw [eg] at g1
    have ew : (((pre ++ [q]).length : Nat) : Int) = ((pre.length + 1 : Nat) : Int) := by simp
    rw [ew] at g1
    have hd : ddtS q (q :: rest) = ddtS q rest := by simp [ddtS]
    have er : pre ++ q :: ddtS q (q :: rest) = (pre ++ [q]) ++ ddtS q rest := by rw [hd]; simp
    rw [er]
    generalize hR : (pre ++ [q]) ++ ddtS q rest = R at g1 g2 ⊢
    have hRl : R.length ≤ pre.length + 1 + (rest.length + 1) := by
     rw [← hR]; have := ddtS_length rest q; simp; omega
    have hin2 : inB ((R.length : Nat) : Int) (g.length : Int) g.length = true := by
     simp only [inB, g3, Bool.and_eq_true, decide_eq_true_eq]; omega
    have hRg : R.length ≤ g.length := by omega
    have hcl : (clrL g R.length (g.length - R.length) ([] : List UInt8)).length = g.length := by simp [clrL]; omega
    have hin3 : inB (0 : Int) ((R.length : Nat) : Int) (clrL g R.length (g.length - R.length) ([] : List UInt8)).length = true := by
     rw [hcl]; simp only [inB, Bool.and_eq_true, decide_eq_true_eq]; omega
    have hfin : (((clrL g R.length (g.length - R.length) ([] : List UInt8))).drop (0 : Int).toNat).take (((R.length : Nat) : Int) - 0).toNat = R := by
     have e1 : (((R.length : Nat) : Int) - 0).toNat = R.length := by omega
     rw [e1]
     simp only [Int.toNat_zero, List.drop_zero, clrL]
     rw [List.append_assoc, List.take_append_of_le_length (by simp [g3]; omega), List.take_take, Nat.min_self]
     exact g2
    have hsub : ((((g.length : Nat) : Int)) - ((R.length : Nat) : Int)).toNat = g.length - R.length := by omega
    refine ⟨_, iterN_inr ?_, .inl rfl⟩
    have hone : ((1 : Nat) : Int) = (1 : Int) := rfl
    rw [hone] at g1
    simp only [compactS_s4, hlt, decide_true, cond_true, l1, w1, l2, Option.bind_some, hb, hin, hL, Int.toNat_natCast, g1, hin2, hsub, hin3, hfin]
   ·have hb : (q == p) = false := by simp [hc]
    have hd : ddtS p (q :: rest) = q :: ddtS q rest := by simp [ddtS, hc]
    obtain ⟨y, h2, h3⟩ := ih q (pre ++ [p]) n (by simp; omega) (by omega)
    rw [← app_mid] at h2
    have w2 : IntKind.i64.wrap (((pre.length + 1 : Nat) : Int) + 1) = (((pre ++ [p]).length + 1 : Nat) : Int) := by rw [len_succ]; exact w_succ (by omega)
    have e : (pre ++ [p]) ++ q :: ddtS q rest = pre ++ p :: q :: ddtS q rest := by simp
    rw [e] at h3
    rw [hd]
    refine ⟨y, (iterN_inl ?_).trans h2, h3⟩
    simp only [compactS_s4, hlt, decide_true, cond_true, cond_false, l1, w1, l2, Option.bind_some, hb, w2]
theorem compactS_is (l : List Tx) (h : l.length ≤ 100000000) : compactS l = some ((), (cptS l, ())) := by
  cases l with
  | nil => rfl
  | cons x l =>
   cases l with
   | nil => rfl
   | cons y l =>
    simp only [List.length_cons] at h
    have hlt : ¬ (((x :: y :: l).length : Nat) : Int) < 2 := by simp; omega
    obtain ⟨z, h1, h2⟩ := phaseS1 (y :: l) x [] fuN (by simp; omega) (by have := fuN_le; simp; omega)
    have h1' : iterN (fun x => compactS_s4 x.1 x.2.1) fuN (x :: y :: l, ((1 : Int), ())) = some z := h1
    simp only [compactS, hlt, decide_false, cond_false, Option.bind_some, h1']
    rcases h2 with rfl | rfl <;> rfl
theorem slEqualS_loop : ∀ (rest rest' pre pre' : List Tx) (n : Nat), pre.length = pre'.length → rest.length = rest'.length → pre.length + rest.length ≤ 100000000 → rest.length < n →
   iterN (fun x => slEqualS_s4 x.1 x.2.1 x.2.2.1 x.2.2.2.1) n (pre ++ rest, (pre' ++ rest', (((pre ++ rest).length : Int), (((pre.length : Nat) : Int), ())))) =
    some (if rest = rest' then .inr () else .inl (false, ())) := by
  intro rest
  induction rest with
  | nil =>
   intro rest' pre pre' n h1 h2 h3 hn
   obtain ⟨n, rfl⟩ := succ_of hn
   have : rest' = [] := List.length_eq_zero_iff.1 (by simpa using h2.symm)
   subst this
   refine iterN_inr ?_
   simp [slEqualS_s4]
  | cons r rest ih =>
   intro rest' pre pre' n h1 h2 h3 hn
   cases rest' with
   | nil => simp at h2
   | cons r' rest' =>
    simp only [List.length_cons, Nat.add_right_cancel_iff] at h2 h3 hn
    obtain ⟨n, rfl⟩ := succ_of hn
    have hlt : ((pre.length : Nat) : Int) < ((pre ++ r :: rest).length : Int) := lt_mid
    have ew : IntKind.i64.wrap (((pre.length : Nat) : Int) + 1) = (((pre ++ [r]).length : Nat) : Int) := w_mid (by omega)
    have hlk : lk (pre' ++ r' :: rest') ((pre.length : Nat) : Int) = some r' := by rw [h1]; exact lk_mid
    by_cases hc : r = r'
    ·subst hc
     have hs := ih rest' (pre ++ [r]) (pre' ++ [r]) n (by simp [h1]) h2 (by simp; omega) (by omega)
     rw [← app_mid, ← app_mid] at hs
     have e : (r :: rest = r :: rest') ↔ rest = rest' := by simp
     simp only [e]
     refine (iterN_inl ?_).trans hs
     have hd : (r == r) = true := by simp
     simp only [slEqualS_s4, hlt, decide_true, cond_true, cond_false, lk_mid, hlk, Option.bind_some, hd, Bool.not_true, ew]
    ·have e : ¬ (r :: rest = r' :: rest') := fun h => hc (List.cons.inj h).1
     rw [if_neg e]
     refine iterN_inr ?_
     have hd : (r == r') = false := by simp [hc]
     simp only [slEqualS_s4, hlt, decide_true, cond_true, lk_mid, hlk, Option.bind_some, hd, Bool.not_false]
theorem slEqualS_eq' (a b : List Tx) (h : a.length ≤ 50000000) : slEqualS a b = some ((), (decide (a = b), ())) := by
  by_cases hl : a.length = b.length
  ·have h1 := slEqualS_loop a b [] [] fuN rfl hl (by simp; omega) (by have := fuN_le; omega)
   have h1' : iterN (fun x => slEqualS_s4 x.1 x.2.1 x.2.2.1 x.2.2.2.1) fuN (a, (b, ((a.length : Int), ((0 : Int), ())))) = some (if a = b then .inr () else .inl (false, ())) := h1
   have hne : ((a.length : Int) != (b.length : Int)) = false := by simp [hl]
   simp only [slEqualS, hne, cond_false, Option.bind_some, h1']
   by_cases hab : a = b <;> simp [hab]
  ·have hne : ((a.length : Int) != (b.length : Int)) = true := by simp; omega
   have hab : a ≠ b := fun e => hl (by rw [e])
   simp only [slEqualS, hne, cond_true, Option.bind_some]
   simp [hab]
theorem bl_irrefl : ∀ x : Tx, Op.bytesLess x x = false
  | [] => rfl
  | a :: x => by simp [Op.bytesLess, bl_irrefl x]
theorem bl_trans : ∀ x y z : Tx, Op.bytesLess x y = true → Op.bytesLess y z = true → Op.bytesLess x z = true
  | _, _, [], h1, h2 => by cases h2' : (show Tx from ‹Tx›) <;> simp [Op.bytesLess] at h2
  | [], y, c :: z, h1, h2 => by simp [Op.bytesLess]
  | a :: x, [], c :: z, h1, h2 => by simp [Op.bytesLess] at h1
  | a :: x, b :: y, c :: z, h1, h2 => by
   simp only [Op.bytesLess, Bool.or_eq_true, Bool.and_eq_true, decide_eq_true_eq, beq_iff_eq] at h1 h2 ⊢
   rcases h1 with h1 | ⟨rfl, h1⟩
   ·rcases h2 with h2 | ⟨rfl, h2⟩
    ·exact .inl (UInt8.lt_trans h1 h2)
    ·exact .inl h1
   ·rcases h2 with h2 | ⟨rfl, h2⟩
    ·exact .inl h2
    ·exact .inr ⟨rfl, bl_trans x y z h1 h2⟩
theorem bl_total : ∀ x y : Tx, Op.bytesLess x y = false → Op.bytesLess y x = false → x = y
  | [], [], _, _ => rfl
  | [], b :: y, h1, h2 => by simp [Op.bytesLess] at h1
  | a :: x, [], h1, h2 => by simp [Op.bytesLess] at h2
  | a :: x, b :: y, h1, h2 => by
   simp only [Op.bytesLess, Bool.or_eq_false_iff, Bool.and_eq_false_iff, decide_eq_false_iff_not, beq_eq_false_iff_ne, ne_eq] at h1 h2
   have hab : a = b := by
    have h3 := UInt8.not_lt.1 h1.1
    have h4 := UInt8.not_lt.1 h2.1
    exact UInt8.le_antisymm h4 h3
   subst hab
   rw [bl_total x y (h1.2.resolve_left (fun h => h rfl)) (h2.2.resolve_left (fun h => h rfl))]
theorem s_less_is (x y : Tx) : s_less x y = some ((), (Op.bytesLess x y, ())) := rfl
theorem s_swo : SWO Op.bytesLess where
  irrefl x := bl_irrefl x
  trans x y z h1 h2 := bl_trans x y z h1 h2
  ntrans x y z h1 h2 := by
   cases h : Op.bytesLess x z with
   | false => rfl
   | true =>
    cases h3 : Op.bytesLess y x with
    | true => have := bl_trans y x z h3 h; rw [h2] at this; cases this
    | false =>
     have := bl_total x y h1 h3
     subst this
     rw [h2] at h; cases h
def Ris (l : List Tx) : Prop := l.Pairwise fun x y => Op.bytesLess x y = true
def Wk (l : List Tx) : Prop := l.Pairwise fun x y => Op.bytesLess y x = false
theorem sortS_spec (l : List Tx) (h : l.length ≤ 100000000) : ∃ s, sortS l = some (s, ()) ∧ s.Perm l ∧ Wk s := by
  refine ⟨_, sortG_tie s_less_is s_swo (fun x y h1 h2 => bl_total x y h1 h2) l (by omega) (l.length + 1) (by omega), List.mergeSort_perm _ _, ?_⟩
  have := List.pairwise_mergeSort (le := fun x y : Tx => !Op.bytesLess y x) (fun a b c h1 h2 => by
   simp only [Bool.not_eq_true'] at h1 h2 ⊢
   exact s_swo.ntrans c b a h2 h1) (fun a b => by
   cases h : Op.bytesLess a b with
   | false => simp
   | true =>
    cases h2 : Op.bytesLess b a with
    | false => simp
    | true => have := bl_trans a b a h h2; rw [bl_irrefl] at this; cases this) l
  exact this.imp (fun h => by simpa using h)
theorem ddtS_spec : ∀ (l : List Tx) (u : Tx), Wk (u :: l) → Ris (u :: ddtS u l) ∧ ∀ y, y ∈ u :: ddtS u l ↔ y ∈ u :: l
  | [], u, _ => by simp [ddtS, Ris]
  | r :: l, u, h => by
   obtain ⟨h1, h2⟩ := List.pairwise_cons.1 h
   simp only [ddtS]
   split
   ·rename_i e
    subst e
    obtain ⟨h3, h4⟩ := ddtS_spec l r h2
    refine ⟨h3, fun y => ?_⟩
    rw [h4]; simp
   ·rename_i e
    obtain ⟨h3, h4⟩ := ddtS_spec l r h2
    have hur : Op.bytesLess u r = true := by
     cases hb : Op.bytesLess u r with
     | true => rfl
     | false => exact absurd (bl_total u r hb (h1 r (by simp))).symm e
    refine ⟨List.pairwise_cons.2 ⟨fun y hy => ?_, h3⟩, fun y => ?_⟩
    ·rcases List.mem_cons.1 hy with rfl | hy
     ·exact hur
     ·exact bl_trans u r y hur ((List.pairwise_cons.1 h3).1 y hy)
    ·rw [List.mem_cons, h4]; exact List.mem_cons.symm
theorem cptS_spec {l : List Tx} (h : Wk l) : Ris (cptS l) ∧ ∀ y, y ∈ cptS l ↔ y ∈ l := by
  cases l with
  | nil => exact ⟨List.Pairwise.nil, fun y => Iff.rfl⟩
  | cons x l => exact ddtS_spec l x h
theorem cptS_length (l : List Tx) : (cptS l).length ≤ l.length := by
  cases l with
  | nil => exact Nat.le_refl _
  | cons x l => have := ddtS_length l x; simp only [cptS, List.length_cons]; omega
theorem Ris.ext : ∀ {l m : List Tx}, Ris l → Ris m → (∀ y, y ∈ l ↔ y ∈ m) → l = m
  | [], [], _, _, _ => rfl
  | [], b :: m, _, _, h => by have := (h b).2 (by simp); cases this
  | a :: l, [], _, _, h => by have := (h a).1 (by simp); cases this
  | a :: l, b :: m, h1, h2, h => by
   obtain ⟨g1, g2⟩ := List.pairwise_cons.1 h1
   obtain ⟨k1, k2⟩ := List.pairwise_cons.1 h2
   have hab : a = b := by
    rcases List.mem_cons.1 ((h a).1 (by simp)) with e | e
    ·exact e
    ·rcases List.mem_cons.1 ((h b).2 (by simp)) with e' | e'
     ·exact e'.symm
     ·have := bl_trans a b a (g1 b e') (k1 a e)
      rw [bl_irrefl] at this; cases this
   subst hab
   have : l = m := Ris.ext g2 k2 fun y => by
    constructor
    ·intro hy
     rcases List.mem_cons.1 ((h y).1 (by simp [hy])) with e | e
     ·subst e
      have := g1 y hy
      rw [bl_irrefl] at this; cases this
     ·exact e
    ·intro hy
     rcases List.mem_cons.1 ((h y).2 (by simp [hy])) with e | e
     ·subst e
      have := k1 y hy
      rw [bl_irrefl] at this; cases this
     ·exact e
   rw [this]
abbrev TSet := List (Int × Int) × (List (Int × Int) × List Tx)
def R (t : Tx) : List Int := runes (u8s t)
def gd (t : Tx) : Bool := s8u (enc (R t)) == t
def hd (t : Tx) : Int := (R t).headD 0
def oddB (t : Tx) : Bool := gd t && decide (1 < (R t).length)
theorem bytes_u8s (t : Tx) : Bytes (u8s t) := fun x hx => by
  obtain ⟨c, _, rfl⟩ := List.mem_map.1 hx
  exact ⟨by omega, by have := c.toNat_lt; omega⟩
theorem u8s_length (t : Tx) : (u8s t).length = t.length := by simp [u8s]
theorem R_length (t : Tx) : (R t).length ≤ t.length := by
  have := runes_length (u8s t)
  rw [u8s_length] at this
  exact this
theorem read_loop (t : Tx) (l0 : List Pt) : ∀ (rest pre : List Pt) (g : List Int) (n : Nat), pre.length + rest.length ≤ 20000000 → g.length + rest.length ≤ 20000000 → rest.length < n →
   iterN (fun x => sRead_s6 x.1 x.2.1 x.2.2.1 x.2.2.2.1 x.2.2.2.2.1 x.2.2.2.2.2.1) n (t, (l0, (g, (pre ++ rest, (((pre ++ rest).length : Int), (((pre.length : Nat) : Int), ())))))) = some (t, (l0, (g ++ rest.map (·.1), ()))) := by
  intro rest
  induction rest with
  | nil =>
   intro pre g n h1 h2 hn
   obtain ⟨n, rfl⟩ := succ_of hn
   refine iterN_inr ?_
   simp [sRead_s6]
  | cons r rest ih =>
   intro pre g n h1 h2 hn
   simp only [List.length_cons] at h1 h2 hn
   obtain ⟨n, rfl⟩ := succ_of hn
   have hlt : ((pre.length : Nat) : Int) < ((pre ++ r :: rest).length : Int) := lt_mid
   have ew : IntKind.i64.wrap (((pre.length : Nat) : Int) + 1) = (((pre ++ [r]).length : Nat) : Int) := w_mid (by omega)
   have hs := ih (pre ++ [r]) (g ++ [r.1]) n (by simp; omega) (by simp; omega) (by omega)
   rw [show (pre ++ [r]) ++ rest = pre ++ r :: rest by simp, show (g ++ [r.1]) ++ rest.map (·.1) = g ++ (r :: rest).map (·.1) by simp] at hs
   have hr : roomOk (g.length + [r.1].length) 4 = true := by simp [roomOk]; omega
   refine (iterN_inl ?_).trans hs
   simp only [sRead_s6, hlt, decide_true, cond_true, lk_mid, Option.bind_some, hr, ew]
theorem sRead_is (t : Tx) (h : t.length ≤ 10000000) : sRead t = some ((), (hd t, (((R t).length : Int), (gd t, ())))) := by
  have hb := bytes_u8s t
  have hl := u8s_length t
  have hd1 := utfDecode_is (u8s t) hb (by omega)
  have hpl := pts_length (u8s t).length (u8s t) 0
  have hR : R t = (pts (u8s t).length (u8s t) 0).map (·.1) := rfl
  have hRl := R_length t
  simp only [sRead, hd1, Option.bind_some]
  unfold gd hd
  cases hp : pts (u8s t).length (u8s t) 0 with
  | nil =>
   rw [hp] at hR
   have ht : t = [] := by
    cases t with
    | nil => rfl
    | cons c t => simp [u8s, pts] at hp
   subst ht
   rw [hR]
   rfl
  | cons p l =>
   rw [hp] at hR hpl
   have h0 : ((((p :: l).length : Nat) : Int) == (0 : Int)) = false := by simp; omega
   have h1 := read_loop t (p :: l) (p :: l) [] [] fuN (by simp at hpl ⊢; omega) (by simp at hpl ⊢; omega) (by have := fuN_le; simp at hpl ⊢; omega)
   rw [← hR] at h1
   have h1' : iterN (fun x => sRead_s6 x.1 x.2.1 x.2.2.1 x.2.2.2.1 x.2.2.2.2.1 x.2.2.2.2.2.1) fuN (t, (p :: l, (([] : List Int), (p :: l, (((p :: l).length : Int), ((0 : Int), ())))))) = some (t, (p :: l, (R t, ()))) := h1
   have hlk : lk (p :: l) (0 : Int) = some p := rfl
   have he := utfEncode_is (R t) (by omega)
   simp only [h0, cond_false, Option.bind_some, h1', hlk, he]
   rw [hR]
   simp
theorem good6_is (t : Tx) (h : t.length ≤ 10000000) : good6 t = some ((), (gd t, ())) := by
  have h1 := runes1_is (u8s t) (bytes_u8s t) (by rw [u8s_length]; exact h)
  have h2 := encode1_is (R t) (by have := R_length t; omega)
  simp only [good6, h1, Option.bind_some]
  have h2' : encode1 (runes (u8s t)) = some ((), (enc (R t), ())) := h2
  simp only [h2', Option.bind_some]
  rfl
theorem idx_loop (t : Tx) (L : Int) : ∀ (rest pre : List Tx) (n : Nat), pre.length + rest.length ≤ 100000000 → L = ((pre ++ rest).length : Int) → rest.length < n →
   ∃ y, iterN (fun x => indexS_s2 x.1 x.2.1 x.2.2.1 x.2.2.2.1) n (pre ++ rest, (t, (L, (((pre.length : Nat) : Int), ())))) = some y ∧
    ((t ∈ rest ∧ ∃ i : Nat, y = .inl ((i : Int), ())) ∨ (t ∉ rest ∧ y = .inr ())) := by
  intro rest
  induction rest with
  | nil =>
   intro pre n h1 hL hn
   obtain ⟨n, rfl⟩ := succ_of hn
   subst hL
   refine ⟨_, iterN_inr ?_, .inr ⟨by simp, rfl⟩⟩
   simp [indexS_s2]
  | cons r rest ih =>
   intro pre n h1 hL hn
   simp only [List.length_cons] at h1 hn
   obtain ⟨n, rfl⟩ := succ_of hn
   have hlt : ((pre.length : Nat) : Int) < L := by rw [hL]; exact lt_mid
   have ew : IntKind.i64.wrap (((pre.length : Nat) : Int) + 1) = (((pre ++ [r]).length : Nat) : Int) := w_mid (by omega)
   obtain ⟨y, h2, h3⟩ := ih (pre ++ [r]) n (by simp; omega) (by rw [hL]; simp) (by omega)
   rw [← app_mid] at h2
   by_cases hc : t = r
   ·subst hc
    refine ⟨_, iterN_inr (y := .inl (((pre.length : Nat) : Int), ())) ?_, .inl ⟨by simp, _, rfl⟩⟩
    simp only [indexS_s2, hlt, decide_true, cond_true, lk_mid, Option.bind_some, beq_self_eq_true]
   ·have hb : (t == r) = false := by simp [hc]
    refine ⟨y, (iterN_inl ?_).trans h2, ?_⟩
    ·simp only [indexS_s2, hlt, decide_true, cond_true, cond_false, lk_mid, Option.bind_some, hb, ew]
    ·rcases h3 with ⟨h3, h4⟩ | ⟨h3, h4⟩
     ·exact .inl ⟨by simp [h3], h4⟩
     ·exact .inr ⟨by simp [hc, h3], h4⟩
theorem containsS_is (l : List Tx) (t : Tx) (h : l.length ≤ 50000000) : containsS l t = some ((), (decide (t ∈ l), ())) := by
  obtain ⟨y, h1, h2⟩ := idx_loop t (l.length : Int) l [] fuN (by simp; omega) rfl (by have := fuN_le; omega)
  have h1' : iterN (fun x => indexS_s2 x.1 x.2.1 x.2.2.1 x.2.2.2.1) fuN (l, (t, ((l.length : Int), ((0 : Int), ())))) = some y := h1
  rcases h2 with ⟨h2, i, rfl⟩ | ⟨h2, rfl⟩
  ·have : (i : Int) ≥ 0 := by omega
   simp only [containsS, indexS, h1', Option.bind_some, h2, this, decide_true]
  ·have : ¬ ((-1 : Int) ≥ 0) := by decide
   simp only [containsS, indexS, h1', Option.bind_some, h2, this, decide_false]
def hasS (s : TSet) (t : Tx) : Bool := match R t with
  | [] => false
  | [r] => hv s.1 r
  | r :: _ :: _ => hv s.2.1 r != decide (t ∈ s.2.2)
def OkS (n : Nat) (s : TSet) : Prop := s.1.length ≤ 2000000 ∧ s.2.1.length ≤ 2000000 ∧ s.2.2.length ≤ n ∧ ∀ t ∈ s.2.2, t.length ≤ 10000000
theorem sHas_is (s : TSet) (t : Tx) (h1 : s.1.length ≤ 2000000) (h2 : s.2.1.length ≤ 2000000) (h3 : s.2.2.length ≤ 50000000) (ht : t.length ≤ 10000000) : sHas s t = some ((), (hasS s t, ())) := by
  simp only [sHas, sRead_is t ht, Option.bind_some]
  unfold hasS hd
  cases hR : R t with
  | nil => rfl
  | cons r l =>
   cases l with
   | nil =>
    have e0 : (((([r] : List Int).length : Nat) : Int) == (0 : Int)) = false := rfl
    have e1 : (((([r] : List Int).length : Nat) : Int) == (1 : Int)) = true := rfl
    simp only [e0, e1, cond_false, cond_true, List.headD_cons, rHas_is s.1 r (by omega), Option.bind_some]
   | cons q l =>
    have e0 : ((((r :: q :: l).length : Nat) : Int) == (0 : Int)) = false := by simp; omega
    have e1 : ((((r :: q :: l).length : Nat) : Int) == (1 : Int)) = false := by simp; omega
    simp only [e0, e1, cond_false, Option.bind_some, List.headD_cons, rHas_is s.2.1 r (by omega), containsS_is s.2.2 t h3]
    rfl
def srt8 (l : List Tx) : List Tx := l.mergeSort fun x y => !Op.bytesLess y x
def oddL (l : List Tx) : List Tx := cptS (srt8 (l.filter oddB))
theorem sortS_is (l : List Tx) (h : l.length ≤ 100000000) : sortS l = some (srt8 l, ()) :=
  sortG_tie s_less_is s_swo (fun x y h1 h2 => bl_total x y h1 h2) l (by omega) (l.length + 1) (by omega)
theorem srt8_ok (l : List Tx) (h : l.length ≤ 100000000) : (srt8 l).Perm l ∧ Wk (srt8 l) := by
  obtain ⟨s, h1, h2, h3⟩ := sortS_spec l h
  rw [sortS_is l h] at h1
  cases h1
  exact ⟨h2, h3⟩
theorem oddL_spec (l : List Tx) (h : l.length ≤ 100000000) : Ris (oddL l) ∧ ∀ t, t ∈ oddL l ↔ t ∈ l ∧ oddB t = true := by
  have hl := List.length_filter_le oddB l
  obtain ⟨h1, h2⟩ := srt8_ok (l.filter oddB) (by omega)
  obtain ⟨h3, h4⟩ := cptS_spec h2
  refine ⟨h3, fun t => ?_⟩
  unfold oddL
  rw [h4, h1.mem_iff, List.mem_filter]
theorem oddL_length (l : List Tx) (h : l.length ≤ 100000000) : (oddL l).length ≤ l.length := by
  have hl := List.length_filter_le oddB l
  obtain ⟨h1, _⟩ := srt8_ok (l.filter oddB) (by omega)
  have := cptS_length (srt8 (l.filter oddB))
  rw [h1.length_eq] at this
  exact Nat.le_trans this hl
theorem oddL_same {l : List Tx} (h : l.length ≤ 100000000) (h1 : Ris l) (h2 : ∀ t ∈ l, oddB t = true) : oddL l = l := by
  obtain ⟨g1, g2⟩ := oddL_spec l h
  exact Ris.ext g1 h1 fun y => by rw [g2]; exact ⟨fun h => h.1, fun h => ⟨h, h2 y h⟩⟩
theorem odd_loop : ∀ (rest pre g : List Tx) (n : Nat), (∀ t ∈ rest, t.length ≤ 10000000) → pre.length + rest.length ≤ 100000000 → g.length + rest.length ≤ 100000000 → rest.length < n →
   iterN (fun x => sOdd_s3 x.1 x.2.1 x.2.2.1 x.2.2.2.1) n (g, (pre ++ rest, (((pre ++ rest).length : Int), (((pre.length : Nat) : Int), ())))) = some (g ++ rest.filter oddB, ()) := by
  intro rest
  induction rest with
  | nil =>
   intro pre g n ht h1 h2 hn
   obtain ⟨n, rfl⟩ := succ_of hn
   refine iterN_inr ?_
   simp [sOdd_s3]
  | cons r rest ih =>
   intro pre g n ht h1 h2 hn
   simp only [List.length_cons] at h1 h2 hn
   obtain ⟨n, rfl⟩ := succ_of hn
   have hlt : ((pre.length : Nat) : Int) < ((pre ++ r :: rest).length : Int) := lt_mid
   have ew : IntKind.i64.wrap (((pre.length : Nat) : Int) + 1) = (((pre ++ [r]).length : Nat) : Int) := w_mid (by omega)
   have hrd := sRead_is r (ht r (by simp))
   have hr : roomOk (g.length + [r].length) 16 = true := by simp [roomOk]; omega
   have hgt : decide ((((R r).length : Nat) : Int) > (1 : Int)) = decide (1 < (R r).length) := by
    by_cases h : 1 < (R r).length
    ·rw [decide_eq_true h, decide_eq_true (by omega)]
    ·rw [decide_eq_false h, decide_eq_false (by omega)]
   cases ho : oddB r with
   | true =>
    have ho' := ho
    simp only [oddB, Bool.and_eq_true] at ho'
    have hs := ih (pre ++ [r]) (g ++ [r]) n (fun t h => ht t (by simp [h])) (by simp; omega) (by simp; omega) (by omega)
    rw [show (pre ++ [r]) ++ rest = pre ++ r :: rest by simp, show (g ++ [r]) ++ rest.filter oddB = g ++ (r :: rest).filter oddB by simp [ho]] at hs
    refine (iterN_inl ?_).trans hs
    simp only [sOdd_s3, hlt, decide_true, cond_true, lk_mid, Option.bind_some, hrd, ho'.1, hgt, ho'.2, hr, ew]
   | false =>
    have hs := ih (pre ++ [r]) g n (fun t h => ht t (by simp [h])) (by simp; omega) (by omega) (by omega)
    rw [show (pre ++ [r]) ++ rest = pre ++ r :: rest by simp, show rest.filter oddB = (r :: rest).filter oddB by simp [ho]] at hs
    refine (iterN_inl ?_).trans hs
    cases hg : gd r with
    | false => simp only [sOdd_s3, hlt, decide_true, cond_true, cond_false, lk_mid, Option.bind_some, hrd, hg, ew]
    | true =>
     have hn1 : decide (1 < (R r).length) = false := by
      unfold oddB at ho
      rw [hg] at ho
      simpa using ho
     simp only [sOdd_s3, hlt, decide_true, cond_true, cond_false, lk_mid, Option.bind_some, hrd, hg, hgt, hn1, ew]
theorem sOdd_is (l : List Tx) (h : l.length ≤ 50000000) (ht : ∀ t ∈ l, t.length ≤ 10000000) : sOdd l = some ((), (oddL l, ())) := by
  have h1 := odd_loop l [] [] fuN ht (by simp; omega) (by simp; omega) (by have := fuN_le; omega)
  have h1' : iterN (fun x => sOdd_s3 x.1 x.2.1 x.2.2.1 x.2.2.2.1) fuN (([] : List Tx), (l, ((l.length : Int), ((0 : Int), ())))) = some (l.filter oddB, ()) := h1
  have hl := List.length_filter_le oddB l
  have h2 := sortS_is (l.filter oddB) (by omega)
  have hp := (srt8_ok (l.filter oddB) (by omega)).1
  have h3 := compactS_is (srt8 (l.filter oddB)) (by rw [hp.length_eq]; omega)
  simp only [sOdd, h1', Option.bind_some, h2, h3]
  rfl
noncomputable def normS (s : TSet) : TSet := (norm s.1, (norm s.2.1, oddL s.2.2))
theorem sNorm_is (s : TSet) (h1 : s.1.length ≤ 2000000) (h2 : s.2.1.length ≤ 2000000) (h3 : s.2.2.length ≤ 50000000) (ht : ∀ t ∈ s.2.2, t.length ≤ 10000000) : sNorm s = some ((), (normS s, ())) := by
  simp only [sNorm, rNorm_eq' s.1 (by omega), rNorm_eq' s.2.1 (by omega), sOdd_is s.2.2 h3 ht, Option.bind_some]
  rfl
theorem sSame_is (a b : TSet) (h1 : a.1.length ≤ 2000000) (h2 : a.2.1.length ≤ 2000000) (h3 : a.2.2.length ≤ 50000000) : sSame a b = some ((), (decide (a = b), ())) := by
  obtain ⟨a1, a2, a3⟩ := a
  obtain ⟨b1, b2, b3⟩ := b
  simp only at h1 h2 h3
  simp only [sSame, slEqual_eq' a1 b1 (by omega), Option.bind_some]
  by_cases c1 : a1 = b1
  ·simp only [c1, decide_true, cond_true, slEqual_eq' a2 b2 (by omega), Option.bind_some]
   by_cases c2 : a2 = b2
   ·simp only [c2, decide_true, cond_true, slEqualS_eq' a3 b3 (by omega), Option.bind_some]
    by_cases c3 : a3 = b3 <;> simp [c3]
   ·simp [c2]
  ·simp [c1]
theorem kU_is (x y : Bool) : kU x y = some ((), (uB x y, ())) := by cases x <;> cases y <;> rfl
theorem kM_is (x y : Bool) : kM x y = some ((), (mB x y, ())) := by cases x <;> cases y <;> rfl
theorem kD_is (x y : Bool) : kD x y = some ((), (dB x y, ())) := by cases x <;> cases y <;> rfl
def othB (f : Bool → Bool → Bool) (x y : TSet) (M : List (Int × Int)) (t : Tx) : Bool := f (hasS x t) (hasS y t) != hv M (hd t)
noncomputable def joinS (f : Bool → Bool → Bool) (a b : TSet) : TSet :=
  (opS f (norm a.1) (norm b.1), (opS f (norm a.2.1) (norm b.2.1), (oddL (oddL a.2.2 ++ oddL b.2.2)).filter (othB f (normS a) (normS b) (opS f (norm a.2.1) (norm b.2.1)))))
theorem norm_len (l : List Rg) : (norm l).length ≤ 1114113 := nrm_len (norm_spec l).1
theorem joinU_loop (x y : TSet) (S M : List (Int × Int)) (hx : x.1.length ≤ 2000000 ∧ x.2.1.length ≤ 2000000 ∧ x.2.2.length ≤ 50000000) (hy : y.1.length ≤ 2000000 ∧ y.2.1.length ≤ 2000000 ∧ y.2.2.length ≤ 50000000) (hM : M.length ≤ 2000000) :
   ∀ (rest pre g : List Tx) (n : Nat), (∀ t ∈ rest, t.length ≤ 10000000) → pre.length + rest.length ≤ 100000000 → g.length + rest.length ≤ 100000000 → rest.length < n →
   iterN (fun x => joinU_s9 x.1 x.2.1 x.2.2.1 x.2.2.2.1 x.2.2.2.2.1 x.2.2.2.2.2.1 x.2.2.2.2.2.2.1) n (x, (y, (((), ((), ())), ((S, (M, g)), (pre ++ rest, (((pre ++ rest).length : Int), (((pre.length : Nat) : Int), ()))))))) =
    some (((), ((), ())), ((S, (M, g ++ rest.filter (othB uB x y M))), ())) := by
  intro rest
  induction rest with
  | nil =>
   intro pre g n ht h1 h2 hn
   obtain ⟨n, rfl⟩ := succ_of hn
   refine iterN_inr ?_
   simp [joinU_s9]
  | cons r rest ih =>
   intro pre g n ht h1 h2 hn
   simp only [List.length_cons] at h1 h2 hn
   obtain ⟨n, rfl⟩ := succ_of hn
   have hlt : ((pre.length : Nat) : Int) < ((pre ++ r :: rest).length : Int) := lt_mid
   have ew : IntKind.i64.wrap (((pre.length : Nat) : Int) + 1) = (((pre ++ [r]).length : Nat) : Int) := w_mid (by omega)
   have hrl := ht r (by simp)
   have hrd := sRead_is r hrl
   have hh1 := sHas_is x r hx.1 hx.2.1 hx.2.2 hrl
   have hh2 := sHas_is y r hy.1 hy.2.1 hy.2.2 hrl
   have hh3 := rHas_is M (hd r) (by omega)
   have hr : roomOk (g.length + [r].length) 16 = true := by simp [roomOk]; omega
   have hb : ∀ u v : Bool, (!(u == v)) = (u != v) := fun u v => rfl
   cases ho : othB uB x y M r with
   | true =>
    have hs := ih (pre ++ [r]) (g ++ [r]) n (fun t h => ht t (by simp [h])) (by simp; omega) (by simp; omega) (by omega)
    rw [show (pre ++ [r]) ++ rest = pre ++ r :: rest by simp, show (g ++ [r]) ++ rest.filter (othB uB x y M) = g ++ (r :: rest).filter (othB uB x y M) by simp [ho]] at hs
    refine (iterN_inl ?_).trans hs
    unfold othB at ho
    simp only [joinU_s9, hlt, decide_true, cond_true, lk_mid, Option.bind_some, hrd, hh1, hh2, hh3, kU_is, hb, ho, hr, ew]
   | false =>
    have hs := ih (pre ++ [r]) g n (fun t h => ht t (by simp [h])) (by simp; omega) (by omega) (by omega)
    rw [show (pre ++ [r]) ++ rest = pre ++ r :: rest by simp, show rest.filter (othB uB x y M) = (r :: rest).filter (othB uB x y M) by simp [ho]] at hs
    refine (iterN_inl ?_).trans hs
    unfold othB at ho
    simp only [joinU_s9, hlt, decide_true, cond_true, cond_false, lk_mid, Option.bind_some, hrd, hh1, hh2, hh3, kU_is, hb, ho, ew]
theorem joinU_is (a b : TSet) (ha : OkS 10000000 a) (hb : OkS 10000000 b) : joinU a b = some ((), (joinS uB a b, ())) := by
  obtain ⟨a1, a2, a3, a4⟩ := ha
  obtain ⟨b1, b2, b3, b4⟩ := hb
  have n1 := norm_len a.1; have n2 := norm_len a.2.1; have n3 := norm_len b.1; have n4 := norm_len b.2.1
  obtain ⟨r1, r2⟩ := rUnion_is (norm a.1) (norm b.1) (by omega) (by omega)
  obtain ⟨r3, r4⟩ := rUnion_is (norm a.2.1) (norm b.2.1) (by omega) (by omega)
  have oa := oddL_length a.2.2 (by omega)
  have ob := oddL_length b.2.2 (by omega)
  obtain ⟨_, sa⟩ := oddL_spec a.2.2 (by omega)
  obtain ⟨_, sb⟩ := oddL_spec b.2.2 (by omega)
  have hc := concatS_is (oddL a.2.2) (oddL b.2.2) (by omega) (by omega)
  have hct : ∀ t ∈ oddL a.2.2 ++ oddL b.2.2, t.length ≤ 10000000 := fun t ht => by
   rcases List.mem_append.1 ht with h | h
   ·exact a4 t ((sa t).1 h).1
   ·exact b4 t ((sb t).1 h).1
  have ho := sOdd_is (oddL a.2.2 ++ oddL b.2.2) (by simp; omega) hct
  have hol := oddL_length (oddL a.2.2 ++ oddL b.2.2) (by simp; omega)
  obtain ⟨_, so⟩ := oddL_spec (oddL a.2.2 ++ oddL b.2.2) (by simp; omega)
  have hM := nrm_len r4.1
  have hl := joinU_loop (normS a) (normS b) (opS uB (norm a.1) (norm b.1)) (opS uB (norm a.2.1) (norm b.2.1)) ⟨by show (norm a.1).length ≤ _; omega, by show (norm a.2.1).length ≤ _; omega, by show (oddL a.2.2).length ≤ _; omega⟩ ⟨by show (norm b.1).length ≤ _; omega, by show (norm b.2.1).length ≤ _; omega, by show (oddL b.2.2).length ≤ _; omega⟩ (by omega)
   (oddL (oddL a.2.2 ++ oddL b.2.2)) [] [] fuN (fun t ht => hct t ((so t).1 ht).1) (by simp at hol ⊢; omega) (by simp at hol ⊢; omega) (by have := fuN_le; simp at hol; omega)
  have hl' : iterN (fun x => joinU_s9 x.1 x.2.1 x.2.2.1 x.2.2.2.1 x.2.2.2.2.1 x.2.2.2.2.2.1 x.2.2.2.2.2.2.1) fuN (normS a, (normS b, (((), ((), ())), ((opS uB (norm a.1) (norm b.1), (opS uB (norm a.2.1) (norm b.2.1), ([] : List Tx))), (oddL (oddL a.2.2 ++ oddL b.2.2), (((oddL (oddL a.2.2 ++ oddL b.2.2)).length : Int), ((0 : Int), ()))))))) = some (((), ((), ())), (joinS uB a b, ())) := hl
  have e1 : (normS a).1 = norm a.1 := rfl
  have e2 : (normS a).2.1 = norm a.2.1 := rfl
  have e3 : (normS a).2.2 = oddL a.2.2 := rfl
  have e4 : (normS b).1 = norm b.1 := rfl
  have e5 : (normS b).2.1 = norm b.2.1 := rfl
  have e6 : (normS b).2.2 = oddL b.2.2 := rfl
  simp only [joinU, sNorm_is a a1 a2 (by omega) a4, sNorm_is b b1 b2 (by omega) b4, Option.bind_some, e1, e2, e3, e4, e5, e6, r1, r3, hc, ho, hl']
theorem joinM_loop (x y : TSet) (S M : List (Int × Int)) (hx : x.1.length ≤ 2000000 ∧ x.2.1.length ≤ 2000000 ∧ x.2.2.length ≤ 50000000) (hy : y.1.length ≤ 2000000 ∧ y.2.1.length ≤ 2000000 ∧ y.2.2.length ≤ 50000000) (hM : M.length ≤ 2000000) :
   ∀ (rest pre g : List Tx) (n : Nat), (∀ t ∈ rest, t.length ≤ 10000000) → pre.length + rest.length ≤ 100000000 → g.length + rest.length ≤ 100000000 → rest.length < n →
   iterN (fun x => joinM_s9 x.1 x.2.1 x.2.2.1 x.2.2.2.1 x.2.2.2.2.1 x.2.2.2.2.2.1 x.2.2.2.2.2.2.1) n (x, (y, (((), ((), ())), ((S, (M, g)), (pre ++ rest, (((pre ++ rest).length : Int), (((pre.length : Nat) : Int), ()))))))) =
    some (((), ((), ())), ((S, (M, g ++ rest.filter (othB mB x y M))), ())) := by
  intro rest
  induction rest with
  | nil =>
   intro pre g n ht h1 h2 hn
   obtain ⟨n, rfl⟩ := succ_of hn
   refine iterN_inr ?_
   simp [joinM_s9]
  | cons r rest ih =>
   intro pre g n ht h1 h2 hn
   simp only [List.length_cons] at h1 h2 hn
   obtain ⟨n, rfl⟩ := succ_of hn
   have hlt : ((pre.length : Nat) : Int) < ((pre ++ r :: rest).length : Int) := lt_mid
   have ew : IntKind.i64.wrap (((pre.length : Nat) : Int) + 1) = (((pre ++ [r]).length : Nat) : Int) := w_mid (by omega)
   have hrl := ht r (by simp)
   have hrd := sRead_is r hrl
   have hh1 := sHas_is x r hx.1 hx.2.1 hx.2.2 hrl
   have hh2 := sHas_is y r hy.1 hy.2.1 hy.2.2 hrl
   have hh3 := rHas_is M (hd r) (by omega)
   have hr : roomOk (g.length + [r].length) 16 = true := by simp [roomOk]; omega
   have hb : ∀ u v : Bool, (!(u == v)) = (u != v) := fun u v => rfl
   cases ho : othB mB x y M r with
   | true =>
    have hs := ih (pre ++ [r]) (g ++ [r]) n (fun t h => ht t (by simp [h])) (by simp; omega) (by simp; omega) (by omega)
    rw [show (pre ++ [r]) ++ rest = pre ++ r :: rest by simp, show (g ++ [r]) ++ rest.filter (othB mB x y M) = g ++ (r :: rest).filter (othB mB x y M) by simp [ho]] at hs
    refine (iterN_inl ?_).trans hs
    unfold othB at ho
    simp only [joinM_s9, hlt, decide_true, cond_true, lk_mid, Option.bind_some, hrd, hh1, hh2, hh3, kM_is, hb, ho, hr, ew]
   | false =>
    have hs := ih (pre ++ [r]) g n (fun t h => ht t (by simp [h])) (by simp; omega) (by omega) (by omega)
    rw [show (pre ++ [r]) ++ rest = pre ++ r :: rest by simp, show rest.filter (othB mB x y M) = (r :: rest).filter (othB mB x y M) by simp [ho]] at hs
    refine (iterN_inl ?_).trans hs
    unfold othB at ho
    simp only [joinM_s9, hlt, decide_true, cond_true, cond_false, lk_mid, Option.bind_some, hrd, hh1, hh2, hh3, kM_is, hb, ho, ew]
theorem joinM_is (a b : TSet) (ha : OkS 10000000 a) (hb : OkS 10000000 b) : joinM a b = some ((), (joinS mB a b, ())) := by
  obtain ⟨a1, a2, a3, a4⟩ := ha
  obtain ⟨b1, b2, b3, b4⟩ := hb
  have n1 := norm_len a.1; have n2 := norm_len a.2.1; have n3 := norm_len b.1; have n4 := norm_len b.2.1
  obtain ⟨r1, r2⟩ := rMeet_is (norm a.1) (norm b.1) (by omega) (by omega)
  obtain ⟨r3, r4⟩ := rMeet_is (norm a.2.1) (norm b.2.1) (by omega) (by omega)
  have oa := oddL_length a.2.2 (by omega)
  have ob := oddL_length b.2.2 (by omega)
  obtain ⟨_, sa⟩ := oddL_spec a.2.2 (by omega)
  obtain ⟨_, sb⟩ := oddL_spec b.2.2 (by omega)
  have hc := concatS_is (oddL a.2.2) (oddL b.2.2) (by omega) (by omega)
  have hct : ∀ t ∈ oddL a.2.2 ++ oddL b.2.2, t.length ≤ 10000000 := fun t ht => by
   rcases List.mem_append.1 ht with h | h
   ·exact a4 t ((sa t).1 h).1
   ·exact b4 t ((sb t).1 h).1
  have ho := sOdd_is (oddL a.2.2 ++ oddL b.2.2) (by simp; omega) hct
  have hol := oddL_length (oddL a.2.2 ++ oddL b.2.2) (by simp; omega)
  obtain ⟨_, so⟩ := oddL_spec (oddL a.2.2 ++ oddL b.2.2) (by simp; omega)
  have hM := nrm_len r4.1
  have hl := joinM_loop (normS a) (normS b) (opS mB (norm a.1) (norm b.1)) (opS mB (norm a.2.1) (norm b.2.1)) ⟨by show (norm a.1).length ≤ _; omega, by show (norm a.2.1).length ≤ _; omega, by show (oddL a.2.2).length ≤ _; omega⟩ ⟨by show (norm b.1).length ≤ _; omega, by show (norm b.2.1).length ≤ _; omega, by show (oddL b.2.2).length ≤ _; omega⟩ (by omega)
   (oddL (oddL a.2.2 ++ oddL b.2.2)) [] [] fuN (fun t ht => hct t ((so t).1 ht).1) (by simp at hol ⊢; omega) (by simp at hol ⊢; omega) (by have := fuN_le; simp at hol; omega)
  have hl' : iterN (fun x => joinM_s9 x.1 x.2.1 x.2.2.1 x.2.2.2.1 x.2.2.2.2.1 x.2.2.2.2.2.1 x.2.2.2.2.2.2.1) fuN (normS a, (normS b, (((), ((), ())), ((opS mB (norm a.1) (norm b.1), (opS mB (norm a.2.1) (norm b.2.1), ([] : List Tx))), (oddL (oddL a.2.2 ++ oddL b.2.2), (((oddL (oddL a.2.2 ++ oddL b.2.2)).length : Int), ((0 : Int), ()))))))) = some (((), ((), ())), (joinS mB a b, ())) := hl
  have e1 : (normS a).1 = norm a.1 := rfl
  have e2 : (normS a).2.1 = norm a.2.1 := rfl
  have e3 : (normS a).2.2 = oddL a.2.2 := rfl
  have e4 : (normS b).1 = norm b.1 := rfl
  have e5 : (normS b).2.1 = norm b.2.1 := rfl
  have e6 : (normS b).2.2 = oddL b.2.2 := rfl
  simp only [joinM, sNorm_is a a1 a2 (by omega) a4, sNorm_is b b1 b2 (by omega) b4, Option.bind_some, e1, e2, e3, e4, e5, e6, r1, r3, hc, ho, hl']
theorem joinD_loop (x y : TSet) (S M : List (Int × Int)) (hx : x.1.length ≤ 2000000 ∧ x.2.1.length ≤ 2000000 ∧ x.2.2.length ≤ 50000000) (hy : y.1.length ≤ 2000000 ∧ y.2.1.length ≤ 2000000 ∧ y.2.2.length ≤ 50000000) (hM : M.length ≤ 2000000) :
   ∀ (rest pre g : List Tx) (n : Nat), (∀ t ∈ rest, t.length ≤ 10000000) → pre.length + rest.length ≤ 100000000 → g.length + rest.length ≤ 100000000 → rest.length < n →
   iterN (fun x => joinD_s9 x.1 x.2.1 x.2.2.1 x.2.2.2.1 x.2.2.2.2.1 x.2.2.2.2.2.1 x.2.2.2.2.2.2.1) n (x, (y, (((), ((), ())), ((S, (M, g)), (pre ++ rest, (((pre ++ rest).length : Int), (((pre.length : Nat) : Int), ()))))))) =
    some (((), ((), ())), ((S, (M, g ++ rest.filter (othB dB x y M))), ())) := by
  intro rest
  induction rest with
  | nil =>
   intro pre g n ht h1 h2 hn
   obtain ⟨n, rfl⟩ := succ_of hn
   refine iterN_inr ?_
   simp [joinD_s9]
  | cons r rest ih =>
   intro pre g n ht h1 h2 hn
   simp only [List.length_cons] at h1 h2 hn
   obtain ⟨n, rfl⟩ := succ_of hn
   have hlt : ((pre.length : Nat) : Int) < ((pre ++ r :: rest).length : Int) := lt_mid
   have ew : IntKind.i64.wrap (((pre.length : Nat) : Int) + 1) = (((pre ++ [r]).length : Nat) : Int) := w_mid (by omega)
   have hrl := ht r (by simp)
   have hrd := sRead_is r hrl
   have hh1 := sHas_is x r hx.1 hx.2.1 hx.2.2 hrl
   have hh2 := sHas_is y r hy.1 hy.2.1 hy.2.2 hrl
   have hh3 := rHas_is M (hd r) (by omega)
   have hr : roomOk (g.length + [r].length) 16 = true := by simp [roomOk]; omega
   have hb : ∀ u v : Bool, (!(u == v)) = (u != v) := fun u v => rfl
   cases ho : othB dB x y M r with
   | true =>
    have hs := ih (pre ++ [r]) (g ++ [r]) n (fun t h => ht t (by simp [h])) (by simp; omega) (by simp; omega) (by omega)
    rw [show (pre ++ [r]) ++ rest = pre ++ r :: rest by simp, show (g ++ [r]) ++ rest.filter (othB dB x y M) = g ++ (r :: rest).filter (othB dB x y M) by simp [ho]] at hs
    refine (iterN_inl ?_).trans hs
    unfold othB at ho
    simp only [joinD_s9, hlt, decide_true, cond_true, lk_mid, Option.bind_some, hrd, hh1, hh2, hh3, kD_is, hb, ho, hr, ew]
   | false =>
    have hs := ih (pre ++ [r]) g n (fun t h => ht t (by simp [h])) (by simp; omega) (by omega) (by omega)
    rw [show (pre ++ [r]) ++ rest = pre ++ r :: rest by simp, show rest.filter (othB dB x y M) = (r :: rest).filter (othB dB x y M) by simp [ho]] at hs
    refine (iterN_inl ?_).trans hs
    unfold othB at ho
    simp only [joinD_s9, hlt, decide_true, cond_true, cond_false, lk_mid, Option.bind_some, hrd, hh1, hh2, hh3, kD_is, hb, ho, ew]
theorem joinD_is (a b : TSet) (ha : OkS 10000000 a) (hb : OkS 10000000 b) : joinD a b = some ((), (joinS dB a b, ())) := by
  obtain ⟨a1, a2, a3, a4⟩ := ha
  obtain ⟨b1, b2, b3, b4⟩ := hb
  have n1 := norm_len a.1; have n2 := norm_len a.2.1; have n3 := norm_len b.1; have n4 := norm_len b.2.1
  obtain ⟨r1, r2⟩ := rMinus_is (norm a.1) (norm b.1) (by omega) (by omega)
  obtain ⟨r3, r4⟩ := rMinus_is (norm a.2.1) (norm b.2.1) (by omega) (by omega)
  have oa := oddL_length a.2.2 (by omega)
  have ob := oddL_length b.2.2 (by omega)
  obtain ⟨_, sa⟩ := oddL_spec a.2.2 (by omega)
  obtain ⟨_, sb⟩ := oddL_spec b.2.2 (by omega)
  have hc := concatS_is (oddL a.2.2) (oddL b.2.2) (by omega) (by omega)
  have hct : ∀ t ∈ oddL a.2.2 ++ oddL b.2.2, t.length ≤ 10000000 := fun t ht => by
   rcases List.mem_append.1 ht with h | h
   ·exact a4 t ((sa t).1 h).1
   ·exact b4 t ((sb t).1 h).1
  have ho := sOdd_is (oddL a.2.2 ++ oddL b.2.2) (by simp; omega) hct
  have hol := oddL_length (oddL a.2.2 ++ oddL b.2.2) (by simp; omega)
  obtain ⟨_, so⟩ := oddL_spec (oddL a.2.2 ++ oddL b.2.2) (by simp; omega)
  have hM := nrm_len r4.1
  have hl := joinD_loop (normS a) (normS b) (opS dB (norm a.1) (norm b.1)) (opS dB (norm a.2.1) (norm b.2.1)) ⟨by show (norm a.1).length ≤ _; omega, by show (norm a.2.1).length ≤ _; omega, by show (oddL a.2.2).length ≤ _; omega⟩ ⟨by show (norm b.1).length ≤ _; omega, by show (norm b.2.1).length ≤ _; omega, by show (oddL b.2.2).length ≤ _; omega⟩ (by omega)
   (oddL (oddL a.2.2 ++ oddL b.2.2)) [] [] fuN (fun t ht => hct t ((so t).1 ht).1) (by simp at hol ⊢; omega) (by simp at hol ⊢; omega) (by have := fuN_le; simp at hol; omega)
  have hl' : iterN (fun x => joinD_s9 x.1 x.2.1 x.2.2.1 x.2.2.2.1 x.2.2.2.2.1 x.2.2.2.2.2.1 x.2.2.2.2.2.2.1) fuN (normS a, (normS b, (((), ((), ())), ((opS dB (norm a.1) (norm b.1), (opS dB (norm a.2.1) (norm b.2.1), ([] : List Tx))), (oddL (oddL a.2.2 ++ oddL b.2.2), (((oddL (oddL a.2.2 ++ oddL b.2.2)).length : Int), ((0 : Int), ()))))))) = some (((), ((), ())), (joinS dB a b, ())) := hl
  have e1 : (normS a).1 = norm a.1 := rfl
  have e2 : (normS a).2.1 = norm a.2.1 := rfl
  have e3 : (normS a).2.2 = oddL a.2.2 := rfl
  have e4 : (normS b).1 = norm b.1 := rfl
  have e5 : (normS b).2.1 = norm b.2.1 := rfl
  have e6 : (normS b).2.2 = oddL b.2.2 := rfl
  simp only [joinD, sNorm_is a a1 a2 (by omega) a4, sNorm_is b b1 b2 (by omega) b4, Option.bind_some, e1, e2, e3, e4, e5, e6, r1, r3, hc, ho, hl']
structure NrS (s : TSet) : Prop where
  one : Nrm s.1
  mul : Nrm s.2.1
  ris : Ris s.2.2
  odd : ∀ t ∈ s.2.2, oddB t = true
  len : s.2.2.length ≤ 100000000
theorem hv_mem {l : List Rg} {x : Int} : hv l x = true ↔ Mem l x := by
  unfold hv
  by_cases h0 : 0 ≤ x
  ·by_cases h1 : x ≤ 1114111
   ·simp only [h0, h1, decide_true, Bool.true_and]; exact has_mem h0 h1
   ·simp only [h0, h1, decide_true, decide_false, Bool.false_and, Bool.and_false, Bool.false_eq_true, false_iff]
    exact fun h => h1 h.2.1
  ·simp only [h0, decide_false, Bool.false_and, Bool.false_eq_true, false_iff]
   exact fun h => h0 h.1
theorem hv_norm (l : List Rg) (x : Int) : hv (norm l) x = hv l x := by
  rw [Bool.eq_iff_iff, hv_mem, hv_mem]; exact (norm_spec l).2 x
theorem nrm_ext {l m : List Rg} (h1 : Nrm l) (h2 : Nrm m) (h : ∀ x, hv l x = hv m x) : l = m :=
  unique h1 h2 fun x => by rw [← hv_mem, ← hv_mem, h]
def inr (x : Int) : Bool := decide (0 ≤ x) && decide (x ≤ 1114111)
theorem hv_inr {l : List Rg} {x : Int} (h : hv l x = true) : inr x = true := by
  have := hv_mem.1 h
  simp only [inr, Bool.and_eq_true, decide_eq_true_eq]
  exact ⟨this.1, this.2.1⟩
theorem hv_op {f : Bool → Bool → Bool} (hf : f false false = false) {a b : List Rg} (h : IsOp f a b (opS f a b)) (x : Int) : hv (opS f a b) x = f (hv a x) (hv b x) := by
  rw [Bool.eq_iff_iff, hv_mem, h.2]
  unfold hv
  by_cases h0 : 0 ≤ x
  ·by_cases h1 : x ≤ 1114111
   ·simp [h0, h1]
   ·simp [h0, h1, hf]
  ·simp [h0, hf]
theorem normS_nr (s : TSet) (h : s.2.2.length ≤ 100000000) : NrS (normS s) := by
  obtain ⟨h1, h2⟩ := oddL_spec s.2.2 h
  exact ⟨(norm_spec s.1).1, (norm_spec s.2.1).1, h1, fun t ht => ((h2 t).1 ht).2, Nat.le_trans (oddL_length s.2.2 h) h⟩
theorem normS_same {s : TSet} (h : NrS s) : normS s = s := by
  obtain ⟨s1, s2, s3⟩ := s
  show (norm s1, (norm s2, oddL s3)) = _
  rw [norm_nrm h.one, norm_nrm h.mul, oddL_same h.len h.ris h.odd]
theorem hd_of {t : Tx} {r : Int} {l : List Int} (h : R t = r :: l) : hd t = r := by unfold hd; rw [h]; rfl
theorem odd_two {t : Tx} (h : oddB t = true) : ∃ r q l, R t = r :: q :: l := by
  simp only [oddB, Bool.and_eq_true, decide_eq_true_eq] at h
  match hR : R t, h.2 with
  | [], h => simp at h
  | [_], h => simp at h
  | r :: q :: l, _ => exact ⟨r, q, l, rfl⟩
theorem hasS_odd (s : TSet) {t : Tx} (h : oddB t = true) : hasS s t = (hv s.2.1 (hd t) != decide (t ∈ s.2.2)) := by
  obtain ⟨r, q, l, hR⟩ := odd_two h
  unfold hasS
  rw [hR, hd_of hR]
theorem NrS.ext {x y : TSet} (hx : NrS x) (hy : NrS y) (h1 : ∀ r, hv x.1 r = hv y.1 r) (h2 : ∀ r, hv x.2.1 r = hv y.2.1 r) (h3 : ∀ t, hasS x t = hasS y t) : x = y := by
  obtain ⟨x1, x2, x3⟩ := x
  obtain ⟨y1, y2, y3⟩ := y
  have e1 : x1 = y1 := nrm_ext hx.one hy.one h1
  have e2 : x2 = y2 := nrm_ext hx.mul hy.mul h2
  subst e1 e2
  have e3 : x3 = y3 := by
   refine Ris.ext hx.ris hy.ris fun t => ?_
   have key : oddB t = true → (t ∈ x3 ↔ t ∈ y3) := fun ho => by
    have := h3 t
    rw [hasS_odd _ ho, hasS_odd _ ho] at this
    simp only at this
    by_cases a : t ∈ x3 <;> by_cases b : t ∈ y3 <;> simp [a, b] at this ⊢
   exact ⟨fun h => (key (hx.odd t h)).1 h, fun h => (key (hy.odd t h)).2 h⟩
  rw [e3]
theorem join_nr (f : Bool → Bool → Bool) (a b : TSet) (ha : a.2.2.length ≤ 10000000) (hb : b.2.2.length ≤ 10000000) (h1 : IsOp f (norm a.1) (norm b.1) (opS f (norm a.1) (norm b.1))) (h2 : IsOp f (norm a.2.1) (norm b.2.1) (opS f (norm a.2.1) (norm b.2.1))) :
   NrS (joinS f a b) := by
  have oa := oddL_length a.2.2 (by omega)
  have ob := oddL_length b.2.2 (by omega)
  have hl : (oddL a.2.2 ++ oddL b.2.2).length ≤ 100000000 := by simp; omega
  obtain ⟨g1, g2⟩ := oddL_spec (oddL a.2.2 ++ oddL b.2.2) hl
  have hol := oddL_length (oddL a.2.2 ++ oddL b.2.2) hl
  refine ⟨h1.1, h2.1, List.Pairwise.filter _ g1, fun t ht => ((g2 t).1 (List.mem_filter.1 ht).1).2, ?_⟩
  have := List.length_filter_le (othB f (normS a) (normS b) (opS f (norm a.2.1) (norm b.2.1))) (oddL (oddL a.2.2 ++ oddL b.2.2))
  exact Nat.le_trans this (Nat.le_trans hol hl)
theorem join_len (f : Bool → Bool → Bool) (a b : TSet) (ha : a.2.2.length ≤ 10000000) (hb : b.2.2.length ≤ 10000000) : (joinS f a b).2.2.length ≤ a.2.2.length + b.2.2.length := by
  have oa := oddL_length a.2.2 (by omega)
  have ob := oddL_length b.2.2 (by omega)
  have hol := oddL_length (oddL a.2.2 ++ oddL b.2.2) (by simp; omega)
  have := List.length_filter_le (othB f (normS a) (normS b) (opS f (norm a.2.1) (norm b.2.1))) (oddL (oddL a.2.2 ++ oddL b.2.2))
  simp at hol
  show List.length (List.filter _ _) ≤ _
  omega
theorem join_has {f : Bool → Bool → Bool} (hf : f false false = false) (a b : TSet) (ha : a.2.2.length ≤ 10000000) (hb : b.2.2.length ≤ 10000000) (h1 : IsOp f (norm a.1) (norm b.1) (opS f (norm a.1) (norm b.1))) (h2 : IsOp f (norm a.2.1) (norm b.2.1) (opS f (norm a.2.1) (norm b.2.1))) (t : Tx) :
   hasS (joinS f a b) t = f (hasS (normS a) t) (hasS (normS b) t) := by
  have oa := oddL_length a.2.2 (by omega)
  have ob := oddL_length b.2.2 (by omega)
  obtain ⟨_, sa⟩ := oddL_spec a.2.2 (by omega)
  obtain ⟨_, sb⟩ := oddL_spec b.2.2 (by omega)
  obtain ⟨_, so⟩ := oddL_spec (oddL a.2.2 ++ oddL b.2.2) (by simp; omega)
  cases hR : R t with
  | nil => unfold hasS; rw [hR]; exact hf.symm
  | cons r l =>
   cases l with
   | nil =>
    unfold hasS
    rw [hR]
    exact hv_op hf h1 r
   | cons q l =>
    have hh : hd t = r := hd_of hR
    have ej : hasS (joinS f a b) t = (hv (opS f (norm a.2.1) (norm b.2.1)) r != decide (t ∈ (joinS f a b).2.2)) := by unfold hasS; rw [hR]; rfl
    have ea : hasS (normS a) t = (hv (norm a.2.1) r != decide (t ∈ oddL a.2.2)) := by unfold hasS; rw [hR]; rfl
    have eb : hasS (normS b) t = (hv (norm b.2.1) r != decide (t ∈ oddL b.2.2)) := by unfold hasS; rw [hR]; rfl
    have hm : t ∈ (joinS f a b).2.2 ↔ t ∈ oddL (oddL a.2.2 ++ oddL b.2.2) ∧ othB f (normS a) (normS b) (opS f (norm a.2.1) (norm b.2.1)) t = true := List.mem_filter
    rw [ej]
    by_cases hc : t ∈ oddL (oddL a.2.2 ++ oddL b.2.2)
    ·have hd1 : decide (t ∈ (joinS f a b).2.2) = (f (hasS (normS a) t) (hasS (normS b) t) != hv (opS f (norm a.2.1) (norm b.2.1)) r) := by
      rw [Bool.eq_iff_iff, decide_eq_true_eq, hm]
      unfold othB
      rw [hh]
      exact ⟨fun h => h.2, fun h => ⟨hc, h⟩⟩
     rw [hd1]
     cases hv (opS f (norm a.2.1) (norm b.2.1)) r <;> cases f (hasS (normS a) t) (hasS (normS b) t) <;> rfl
    ·have hn : t ∉ (joinS f a b).2.2 := fun h => hc (hm.1 h).1
     have na : t ∉ oddL a.2.2 := fun h => hc ((so t).2 ⟨List.mem_append_left _ h, ((sa t).1 h).2⟩)
     have nb : t ∉ oddL b.2.2 := fun h => hc ((so t).2 ⟨List.mem_append_right _ h, ((sb t).1 h).2⟩)
     rw [ea, eb]
     simp only [hn, na, nb, decide_false]
     rw [hv_op hf h2 r]
     simp
theorem join_one {f : Bool → Bool → Bool} (hf : f false false = false) (a b : TSet) (h1 : IsOp f (norm a.1) (norm b.1) (opS f (norm a.1) (norm b.1))) (r : Int) : hv (joinS f a b).1 r = f (hv a.1 r) (hv b.1 r) := by
  show hv (opS f (norm a.1) (norm b.1)) r = _
  rw [hv_op hf h1, hv_norm, hv_norm]
theorem join_mul {f : Bool → Bool → Bool} (hf : f false false = false) (a b : TSet) (h1 : IsOp f (norm a.2.1) (norm b.2.1) (opS f (norm a.2.1) (norm b.2.1))) (r : Int) : hv (joinS f a b).2.1 r = f (hv a.2.1 r) (hv b.2.1 r) := by
  show hv (opS f (norm a.2.1) (norm b.2.1)) r = _
  rw [hv_op hf h1, hv_norm, hv_norm]
theorem opU (a b : List Rg) : IsOp uB (norm a) (norm b) (opS uB (norm a) (norm b)) := (rUnion_is (norm a) (norm b) (by have := norm_len a; omega) (by have := norm_len b; omega)).2
theorem opM (a b : List Rg) : IsOp mB (norm a) (norm b) (opS mB (norm a) (norm b)) := (rMeet_is (norm a) (norm b) (by have := norm_len a; omega) (by have := norm_len b; omega)).2
theorem opD (a b : List Rg) : IsOp dB (norm a) (norm b) (opS dB (norm a) (norm b)) := (rMinus_is (norm a) (norm b) (by have := norm_len a; omega) (by have := norm_len b; omega)).2
theorem vl_range {c : Int} (hc : Byte c) : ∀ {r : Int} {bs : List (Int × Int)}, bd c = some (r, bs) → ∀ xs, Bytes xs → mt bs xs = bs.length → vld (vl r bs.length xs) = true := by
  intro r bs hbd xs hx hm
  have h0 := hc.1; have h9 := hc.2
  have V : ∀ z : Int, 0 ≤ z → z ≤ 1114111 → (z < 55296 ∨ z > 57343) → vld z = true := fun z a b c => by
   simp only [vld, Bool.and_eq_true, Bool.or_eq_true, decide_eq_true_eq]; exact ⟨a, b, c⟩
  have one : ∀ {lo hi : Int} {b2 : List (Int × Int)} {ys : List Int}, mt ((lo, hi) :: b2) ys = b2.length + 1 → ∃ x zs, ys = x :: zs ∧ lo ≤ x ∧ x ≤ hi ∧ mt b2 zs = b2.length := fun {lo hi b2 ys} h => by
   cases ys with
   | nil => simp [mt] at h
   | cons x zs =>
    simp only [mt] at h
    split at h
    ·rename_i hh
     exact ⟨x, zs, rfl, hh.1, hh.2, by omega⟩
    ·omega
  by_cases h1 : c < 128
  ·simp only [bd, if_pos h1, Option.some.injEq, Prod.mk.injEq] at hbd
   obtain ⟨rfl, rfl⟩ := hbd
   have e : vl c ([] : List (Int × Int)).length xs = c := by cases xs <;> rfl
   rw [e]
   exact V _ (by omega) (by omega) (by omega)
  by_cases h2 : c < 194
  ·simp only [bd, if_neg h1, if_pos h2, reduceCtorEq] at hbd
  by_cases h3 : c < 224
  ·simp only [bd, if_neg h1, if_neg h2, if_pos h3, Option.some.injEq, Prod.mk.injEq] at hbd
   obtain ⟨rfl, rfl⟩ := hbd
   obtain ⟨x, zs, rfl, g1, g2, _⟩ := one hm
   exact V _ (by simp only [List.length_cons, List.length_nil, vl]; omega) (by simp only [List.length_cons, List.length_nil, vl]; omega) (by simp only [List.length_cons, List.length_nil, vl]; omega)
  by_cases h4 : c < 240
  ·simp only [bd, if_neg h1, if_neg h2, if_neg h3, if_pos h4, Option.some.injEq, Prod.mk.injEq] at hbd
   obtain ⟨rfl, rfl⟩ := hbd
   obtain ⟨x, zs, rfl, g1, g2, g3⟩ := one hm
   obtain ⟨y, ws, rfl, k1, k2, _⟩ := one g3
   by_cases e1 : c = 237
   ·simp only [e1, if_true] at g2
    exact V _ (by simp only [List.length_cons, List.length_nil, vl]; omega) (by simp only [List.length_cons, List.length_nil, vl]; omega) (by simp only [List.length_cons, List.length_nil, vl]; omega)
   ·simp only [e1, if_false] at g2
    have g1' : 128 ≤ x := by split at g1 <;> omega
    exact V _ (by simp only [List.length_cons, List.length_nil, vl]; omega) (by simp only [List.length_cons, List.length_nil, vl]; omega) (by simp only [List.length_cons, List.length_nil, vl]; omega)
  by_cases h5 : c ≤ 244
  ·simp only [bd, if_neg h1, if_neg h2, if_neg h3, if_neg h4, if_pos h5, Option.some.injEq, Prod.mk.injEq] at hbd
   obtain ⟨rfl, rfl⟩ := hbd
   obtain ⟨x, zs, rfl, g1, g2, g3⟩ := one hm
   obtain ⟨y, ws, rfl, k1, k2, g4⟩ := one g3
   obtain ⟨u, us, rfl, l1, l2, _⟩ := one g4
   have g1' : 128 ≤ x := by split at g1 <;> omega
   have g1'' : c = 240 → 144 ≤ x := fun e => by rw [if_pos e] at g1; exact g1
   have g2' : c = 244 → x ≤ 143 := fun e => by rw [if_pos e] at g2; exact g2
   have g2'' : x ≤ 191 := by split at g2 <;> omega
   have hcc : c = 240 ∨ c = 244 ∨ (c > 240 ∧ c < 244) := by omega
   refine V _ ?_ ?_ ?_ <;> simp only [List.length_cons, List.length_nil, vl] <;> rcases hcc with e | e | e
   ·omega
   ·omega
   ·omega
   ·omega
   ·have := g2' e; omega
   ·omega
   ·have := g1'' e; omega
   ·omega
   ·omega
  ·simp only [bd, if_neg h1, if_neg h2, if_neg h3, if_neg h4, if_neg h5, reduceCtorEq] at hbd
theorem front_vld (c : Int) (xs : List Int) (hb : Bytes (c :: xs)) : vld (front (c :: xs)).1 = true := by
  have hc := hb c (by simp)
  simp only [front]
  cases hbd : bd c with
  | none => exact (by decide : vld 65533 = true)
  | some q =>
   obtain ⟨r, bs⟩ := q
   simp only
   by_cases hm : mt bs xs < bs.length
   ·rw [if_pos hm]; exact (by decide : vld 65533 = true)
   ·rw [if_neg hm]
    exact vl_range hc hbd xs (fun x hx => hb x (by simp [hx])) (by have := (mt_le bs xs).1; omega)
theorem pts_vld : ∀ (k : Nat) (b : List Int) (a : Int), Bytes b → ∀ p ∈ pts k b a, vld p.1 = true
  | 0, b, a, hb, p, hp => by simp [pts] at hp
  | k + 1, [], a, hb, p, hp => by simp [pts] at hp
  | k + 1, c :: xs, a, hb, p, hp => by
   simp only [pts, List.mem_cons] at hp
   rcases hp with rfl | hp
   ·exact front_vld c xs hb
   ·exact pts_vld k _ _ (bytes_drop hb _) p hp
theorem R_vld (t : Tx) : ∀ r ∈ R t, vld r = true := fun r hr => by
  obtain ⟨p, hp, rfl⟩ := List.mem_map.1 hr
  exact pts_vld _ _ _ (bytes_u8s t) p hp
theorem vld_inr {r : Int} (h : vld r = true) : inr r = true := by
  simp only [vld, Bool.and_eq_true, decide_eq_true_eq] at h
  simp only [inr, Bool.and_eq_true, decide_eq_true_eq]
  exact ⟨h.1, h.2.1⟩
theorem R_nil {t : Tx} (h : R t = []) : t = [] := by
  cases t with
  | nil => rfl
  | cons c t => simp [R, runes, u8s, pts] at h
noncomputable def allS : TSet := (norm [((0 : Int), (1114111 : Int))], (norm [((0 : Int), (1114111 : Int))], []))
theorem all_hv (x : Int) : hv (norm [((0 : Int), (1114111 : Int))]) x = inr x := by
  rw [hv_norm]
  unfold hv inr
  simp only [has, List.any_cons, List.any_nil, Bool.or_false]
  cases decide (0 ≤ x) <;> cases decide (x ≤ 1114111) <;> rfl
theorem all_nr : NrS allS := ⟨(norm_spec _).1, (norm_spec _).1, List.Pairwise.nil, fun t h => (by cases h), by simp [allS]⟩
theorem all_has (t : Tx) : hasS allS t = !decide (t = []) := by
  unfold hasS
  cases hR : R t with
  | nil => have := R_nil hR; subst this; rfl
  | cons r l =>
   have ht : t ≠ [] := fun e => by subst e; simp [R, runes, u8s, pts] at hR
   have hr := vld_inr (R_vld t r (by rw [hR]; simp))
   have e := all_hv r
   rw [hr] at e
   cases l with
   | nil => simp only [allS, e]; simp [ht]
   | cons q l => simp only [allS, e]; simp [ht]
theorem has_nil (s : TSet) : hasS s [] = false := rfl
theorem sUnion_is (a b : TSet) (ha : OkS 10000000 a) (hb : OkS 10000000 b) : sUnion a b = some ((), (joinS uB a b, ())) := by simp only [sUnion, joinU_is a b ha hb, Option.bind_some]
theorem sMeet_is (a b : TSet) (ha : OkS 10000000 a) (hb : OkS 10000000 b) : sMeet a b = some ((), (joinS mB a b, ())) := by simp only [sMeet, joinM_is a b ha hb, Option.bind_some]
theorem sMinus_is (a b : TSet) (ha : OkS 10000000 a) (hb : OkS 10000000 b) : sMinus a b = some ((), (joinS dB a b, ())) := by simp only [sMinus, joinD_is a b ha hb, Option.bind_some]
theorem sFirst_is (l : List (Int × Int)) (h : l.length ≤ 2000000) : sFirst l = some ((), ((norm l, (norm l, [])), ())) := by
  simp only [sFirst, rNorm_eq' l (by omega), Option.bind_some]
theorem sOnes_is (l : List (Int × Int)) (h : l.length ≤ 2000000) : sOnes l = some ((), ((norm l, ([], [])), ())) := by
  simp only [sOnes, rNorm_eq' l (by omega), Option.bind_some]
theorem sAll_is : sAll = some ((), (allS, ())) := by
  simp only [sAll, sFirst_is [((0 : Int), (1114111 : Int))] (by decide), Option.bind_some]
  rfl
theorem ok_all : OkS 0 allS := ⟨by have := norm_len [((0 : Int), (1114111 : Int))]; show (norm _).length ≤ _; omega, by have := norm_len [((0 : Int), (1114111 : Int))]; show (norm _).length ≤ _; omega, Nat.le_refl _, fun t h => (by cases h)⟩
theorem OkS.mono {n m : Nat} {s : TSet} (h : OkS n s) (hn : n ≤ m) : OkS m s := ⟨h.1, h.2.1, Nat.le_trans h.2.2.1 hn, h.2.2.2⟩
noncomputable def notS (a : TSet) : TSet := joinS dB allS a
theorem sNot_is (a : TSet) (ha : OkS 10000000 a) : sNot a = some ((), (notS a, ())) := by
  simp only [sNot, sAll_is, Option.bind_some, sMinus_is allS a (ok_all.mono (by omega)) ha]
  rfl
theorem sMay_is (s : TSet) (h : OkS 20000000 s) : sMay s = some ((), (decide (normS s = s), ())) := by
  obtain ⟨h1, h2, h3, h4⟩ := h
  have n1 := norm_len s.1; have n2 := norm_len s.2.1
  have n3 := oddL_length s.2.2 (by omega)
  simp only [sMay, sNorm_is s h1 h2 (by omega) h4, Option.bind_some]
  rw [sSame_is (normS s) s (by show (norm s.1).length ≤ _; omega) (by show (norm s.2.1).length ≤ _; omega) (by show (oddL s.2.2).length ≤ _; omega)]
  rfl
theorem sEqual_is (a b : TSet) (ha : OkS 20000000 a) (hb : OkS 20000000 b) : sEqual a b = some ((), (decide (normS a = normS b), ())) := by
  obtain ⟨h1, h2, h3, h4⟩ := ha
  obtain ⟨k1, k2, k3, k4⟩ := hb
  have n1 := norm_len a.1; have n2 := norm_len a.2.1
  have n3 := oddL_length a.2.2 (by omega)
  simp only [sEqual, sNorm_is a h1 h2 (by omega) h4, sNorm_is b k1 k2 (by omega) k4, Option.bind_some]
  rw [sSame_is (normS a) (normS b) (by show (norm a.1).length ≤ _; omega) (by show (norm a.2.1).length ≤ _; omega) (by show (oddL a.2.2).length ≤ _; omega)]
  rfl
def noS : TSet := ([], ([], []))
theorem ok_no : OkS 0 noS := ⟨by decide, by decide, by decide, fun t h => (by cases h)⟩
theorem no_nr : NrS noS := ⟨trivial, trivial, List.Pairwise.nil, fun t h => (by cases h), by decide⟩
theorem sEmpty_is (a : TSet) (ha : OkS 20000000 a) : sEmpty a = some ((), (decide (normS a = noS), ())) := by
  have e := sEqual_is a noS ha (ok_no.mono (by omega))
  rw [normS_same no_nr] at e
  simp only [sEmpty]
  have e' : sEqual a (([] : List (Int × Int)), (([] : List (Int × Int)), ([] : List (List UInt8)))) = _ := e
  rw [e']
  rfl
theorem ok_norm {n : Nat} {s : TSet} (h : OkS n s) (hn : n ≤ 100000000) : OkS n (normS s) := by
  obtain ⟨h1, h2, h3, h4⟩ := h
  have n1 := norm_len s.1; have n2 := norm_len s.2.1
  have n3 := oddL_length s.2.2 (by omega)
  exact ⟨by show (norm s.1).length ≤ _; omega, by show (norm s.2.1).length ≤ _; omega, by show (oddL s.2.2).length ≤ _; omega, fun t ht => h4 t (((oddL_spec s.2.2 (by omega)).2 t).1 ht).1⟩
theorem ok_join {f : Bool → Bool → Bool} {a b : TSet} {n m : Nat} (ha : OkS n a) (hb : OkS m b) (hn : n ≤ 10000000) (hm : m ≤ 10000000) (h1 : Nrm (joinS f a b).1) (h2 : Nrm (joinS f a b).2.1) : OkS (n + m) (joinS f a b) := by
  obtain ⟨a1, a2, a3, a4⟩ := ha
  obtain ⟨b1, b2, b3, b4⟩ := hb
  have hl := join_len f a b (by omega) (by omega)
  have oa := oddL_length a.2.2 (by omega)
  have ob := oddL_length b.2.2 (by omega)
  refine ⟨by have := nrm_len h1; omega, by have := nrm_len h2; omega, by omega, fun t ht => ?_⟩
  have h3 : t ∈ oddL (oddL a.2.2 ++ oddL b.2.2) := (List.mem_filter.1 ht).1
  have h4 := (((oddL_spec (oddL a.2.2 ++ oddL b.2.2) (by simp; omega)).2 t).1 h3).1
  rcases List.mem_append.1 h4 with h | h
  ·exact a4 t (((oddL_spec a.2.2 (by omega)).2 t).1 h).1
  ·exact b4 t (((oddL_spec b.2.2 (by omega)).2 t).1 h).1
theorem nrD (a b : TSet) (ha : a.2.2.length ≤ 10000000) (hb : b.2.2.length ≤ 10000000) : NrS (joinS dB a b) := join_nr dB a b ha hb (opD _ _) (opD _ _)
theorem nrN (a : TSet) (ha : a.2.2.length ≤ 10000000) : NrS (notS a) := nrD allS a (by decide) ha
theorem okU {a b : TSet} {n m : Nat} (ha : OkS n a) (hb : OkS m b) (hn : n ≤ 10000000) (hm : m ≤ 10000000) : OkS (n + m) (joinS uB a b) := ok_join ha hb hn hm (opU _ _).1 (opU _ _).1
theorem okM {a b : TSet} {n m : Nat} (ha : OkS n a) (hb : OkS m b) (hn : n ≤ 10000000) (hm : m ≤ 10000000) : OkS (n + m) (joinS mB a b) := ok_join ha hb hn hm (opM _ _).1 (opM _ _).1
theorem okD {a b : TSet} {n m : Nat} (ha : OkS n a) (hb : OkS m b) (hn : n ≤ 10000000) (hm : m ≤ 10000000) : OkS (n + m) (joinS dB a b) := ok_join ha hb hn hm (opD _ _).1 (opD _ _).1
theorem okN {a : TSet} {n : Nat} (ha : OkS n a) (hn : n ≤ 10000000) : OkS n (notS a) := by
  have := okD ok_all ha (by omega) hn
  rwa [Nat.zero_add] at this
theorem oneD (a b : TSet) (r : Int) : hv (joinS dB a b).1 r = (hv a.1 r && !hv b.1 r) := join_one rfl a b (opD _ _) r
theorem oneN (a : TSet) (r : Int) : hv (notS a).1 r = (inr r && !hv a.1 r) := by
  have := oneD allS a r
  rw [show hv allS.1 r = inr r from all_hv r] at this
  exact this
theorem mulD (a b : TSet) (r : Int) : hv (joinS dB a b).2.1 r = (hv a.2.1 r && !hv b.2.1 r) := join_mul rfl a b (opD _ _) r
theorem mulN (a : TSet) (r : Int) : hv (notS a).2.1 r = (inr r && !hv a.2.1 r) := by
  have := mulD allS a r
  rw [show hv allS.2.1 r = inr r from all_hv r] at this
  exact this
theorem hasU {a b : TSet} (ha : a.2.2.length ≤ 10000000) (hb : b.2.2.length ≤ 10000000) (t : Tx) : hasS (joinS uB a b) t = (hasS (normS a) t || hasS (normS b) t) := join_has rfl a b ha hb (opU _ _) (opU _ _) t
theorem hasM {a b : TSet} (ha : a.2.2.length ≤ 10000000) (hb : b.2.2.length ≤ 10000000) (t : Tx) : hasS (joinS mB a b) t = (hasS (normS a) t && hasS (normS b) t) := join_has rfl a b ha hb (opM _ _) (opM _ _) t
theorem hasD {a b : TSet} (ha : a.2.2.length ≤ 10000000) (hb : b.2.2.length ≤ 10000000) (t : Tx) : hasS (joinS dB a b) t = (hasS (normS a) t && !hasS (normS b) t) := join_has rfl a b ha hb (opD _ _) (opD _ _) t
theorem hasN {a : TSet} (ha : a.2.2.length ≤ 10000000) (t : Tx) : hasS (notS a) t = ((!decide (t = [])) && !hasS (normS a) t) := by
  have := hasD (a := allS) (b := a) (by decide) ha t
  rw [normS_same all_nr, all_has] at this
  exact this
theorem lenU {a b : TSet} {n m : Nat} (ha : a.2.2.length ≤ n) (hb : b.2.2.length ≤ m) (hn : n ≤ 10000000) (hm : m ≤ 10000000) (f : Bool → Bool → Bool) : (joinS f a b).2.2.length ≤ n + m := by
  have := join_len f a b (by omega) (by omega)
  omega
theorem lenN {a : TSet} {n : Nat} (ha : a.2.2.length ≤ n) (hn : n ≤ 10000000) : (notS a).2.2.length ≤ n := by
  have := lenU (a := allS) (b := a) (n := 0) (by decide) ha (by omega) hn dB
  rwa [Nat.zero_add] at this
theorem bI {l : List Rg} {r : Int} : (hv l r && inr r) = hv l r := by
  cases h : hv l r with
  | false => rfl
  | true => rw [hv_inr h]; rfl
theorem hI {s : TSet} {t : Tx} : (hasS s t && !decide (t = [])) = hasS s t := by
  by_cases h : t = []
  ·subst h; rw [has_nil]; rfl
  ·simp [h]
theorem alg1 {a : TSet} (ha : a.2.2.length ≤ 1100000) : notS (notS a) = normS a := by
  have l1 := lenN (a := a) ha (by omega)
  refine NrS.ext (nrN _ (by omega)) (normS_nr a (by omega)) (fun r => ?_) (fun r => ?_) fun t => ?_
  ·rw [oneN, oneN, show hv (normS a).1 r = hv a.1 r from hv_norm _ _]
   have := bI (l := a.1) (r := r)
   revert this
   cases hv a.1 r <;> cases inr r <;> simp
  ·rw [mulN, mulN, show hv (normS a).2.1 r = hv a.2.1 r from hv_norm _ _]
   have := bI (l := a.2.1) (r := r)
   revert this
   cases hv a.2.1 r <;> cases inr r <;> simp
  ·rw [hasN (by omega), normS_same (nrN a (by omega)), hasN (by omega)]
   have := hI (s := normS a) (t := t)
   revert this
   cases hasS (normS a) t <;> cases decide (t = []) <;> simp
theorem sameTexts_loop : ∀ (rest rest' pre pre' : List Tx) (n : Nat), pre.length = pre'.length → rest.length = rest'.length → pre.length + rest.length ≤ 100000000 → rest.length < n →
   iterN (fun x => sameTexts_s4 x.1 x.2.1 x.2.2.1) n (pre ++ rest, (pre' ++ rest', (((pre.length : Nat) : Int), ()))) = some (if rest = rest' then .inr () else .inl (false, ())) := by
  intro rest
  induction rest with
  | nil =>
   intro rest' pre pre' n h1 h2 h3 hn
   obtain ⟨n, rfl⟩ := succ_of hn
   have : rest' = [] := List.length_eq_zero_iff.1 (by simpa using h2.symm)
   subst this
   refine iterN_inr ?_
   simp [sameTexts_s4]
  | cons r rest ih =>
   intro rest' pre pre' n h1 h2 h3 hn
   cases rest' with
   | nil => simp at h2
   | cons r' rest' =>
    simp only [List.length_cons, Nat.add_right_cancel_iff] at h2 h3 hn
    obtain ⟨n, rfl⟩ := succ_of hn
    have hlt : ((pre.length : Nat) : Int) < ((pre ++ r :: rest).length : Int) := lt_mid
    have ew : IntKind.i64.wrap (((pre.length : Nat) : Int) + 1) = (((pre ++ [r]).length : Nat) : Int) := w_mid (by omega)
    have hlk : lk (pre' ++ r' :: rest') ((pre.length : Nat) : Int) = some r' := by rw [h1]; exact lk_mid
    by_cases hc : r = r'
    ·subst hc
     have hs := ih rest' (pre ++ [r]) (pre' ++ [r]) n (by simp [h1]) h2 (by simp; omega) (by omega)
     rw [← app_mid, ← app_mid] at hs
     have e : (r :: rest = r :: rest') ↔ rest = rest' := by simp
     simp only [e]
     refine (iterN_inl ?_).trans hs
     simp only [sameTexts_s4, hlt, decide_true, cond_true, cond_false, lk_mid, hlk, Option.bind_some, beq_self_eq_true, Bool.not_true, ew]
    ·have e : ¬ (r :: rest = r' :: rest') := fun h => hc (List.cons.inj h).1
     rw [if_neg e]
     refine iterN_inr ?_
     have hd : (r == r') = false := by simp [hc]
     simp only [sameTexts_s4, hlt, decide_true, cond_true, lk_mid, hlk, Option.bind_some, hd, Bool.not_false]
theorem sameTexts_is (a b : List Tx) (h : a.length ≤ 50000000) : sameTexts a b = some ((), (decide (a = b), ())) := by
  by_cases hl : a.length = b.length
  ·have h1 := sameTexts_loop a b [] [] fuN rfl hl (by simp; omega) (by have := fuN_le; omega)
   have h1' : iterN (fun x => sameTexts_s4 x.1 x.2.1 x.2.2.1) fuN (a, (b, ((0 : Int), ()))) = some (if a = b then .inr () else .inl (false, ())) := h1
   have hne : ((a.length : Int) != (b.length : Int)) = false := by simp [hl]
   simp only [sameTexts, hne, cond_false, Option.bind_some, h1']
   by_cases hab : a = b <;> simp [hab]
  ·have hne : ((a.length : Int) != (b.length : Int)) = true := by simp; omega
   have hab : a ≠ b := fun e => hl (by rw [e])
   simp only [sameTexts, hne, cond_true, Option.bind_some]
   simp [hab]
theorem same6_is (a b : TSet) (h1 : a.1.length ≤ 2000000) (h2 : a.2.1.length ≤ 2000000) (h3 : a.2.2.length ≤ 50000000) : same6 a b = some ((), (decide (a = b), ())) := by
  obtain ⟨a1, a2, a3⟩ := a
  obtain ⟨b1, b2, b3⟩ := b
  simp only at h1 h2 h3
  simp only [same6, refSame_is a1 b1 (by omega), Option.bind_some]
  by_cases c1 : a1 = b1
  ·simp only [c1, decide_true, cond_true, refSame_is a2 b2 (by omega), Option.bind_some]
   by_cases c2 : a2 = b2
   ·simp only [c2, decide_true, cond_true, sameTexts_is a3 b3 (by omega), Option.bind_some]
    by_cases c3 : a3 = b3 <;> simp [c3]
   ·simp [c2]
  ·simp [c1]
def ofS (t : Tx) : TSet := if gd t = false then noS else match R t with
  | [] => noS
  | [r] => ([(r, r)], ([], []))
  | _ :: _ :: _ => ([], ([], [t]))
theorem sOf_is (t : Tx) (h : t.length ≤ 10000000) : sOf t = some ((), (ofS t, ())) := by
  simp only [sOf, sRead_is t h, Option.bind_some]
  unfold ofS hd
  cases hR : R t with
  | nil =>
   simp
   rfl
  | cons r l =>
   have e0 : (((r :: l).length : Int) == (0 : Int)) = false := by simp; omega
   cases hg : gd t with
   | false => simp only [e0, cond_false, Option.bind_some, Bool.not_false, cond_true, if_true]; rfl
   | true =>
    cases l with
    | nil => simp only [e0, cond_false, Option.bind_some, Bool.not_true]; rfl
    | cons q l =>
     have e1 : (((r :: q :: l).length : Int) == (1 : Int)) = false := by simp; omega
     simp only [e0, e1, cond_false, Option.bind_some, Bool.not_true]
     rfl
theorem ok_of (t : Tx) (h : t.length ≤ 10000000) : OkS 1 (ofS t) := by
  unfold ofS
  split
  ·exact ok_no.mono (by omega)
  ·split
   ·exact ok_no.mono (by omega)
   ·exact ⟨by simp, by simp, by simp, fun t h => (by cases h)⟩
   ·exact ⟨by simp, by simp, by simp, fun u hu => by simp only [List.mem_singleton] at hu; subst hu; exact h⟩
theorem of_nr (t : Tx) : NrS (ofS t) := by
  unfold ofS
  split
  ·exact no_nr
  ·rename_i hg
   split
   ·exact no_nr
   ·rename_i r hR
    have hr := vld_inr (R_vld t r (by rw [hR]; simp))
    simp only [inr, Bool.and_eq_true, decide_eq_true_eq] at hr
    exact ⟨⟨hr.1, Int.le_refl _, hr.2, trivial⟩, trivial, List.Pairwise.nil, fun t h => (by cases h), by simp⟩
   ·rename_i r q l hR
    refine ⟨trivial, trivial, List.pairwise_singleton _ _, fun u hu => ?_, by simp⟩
    simp only [List.mem_singleton] at hu
    subst hu
    unfold oddB
    rw [hR]
    simp at hg
    simp [hg]
theorem hasFst (l : List (Int × Int)) (t : Tx) : hasS (norm l, (norm l, [])) t = (match R t with | [] => false | r :: _ => hv l r) := by
  unfold hasS
  cases R t with
  | nil => rfl
  | cons r m => cases m <;> simp [hv_norm]
theorem hasOns (l : List (Int × Int)) (t : Tx) : hasS (norm l, ([], [])) t = (match R t with | [r] => hv l r | _ => false) := by
  unfold hasS
  cases R t with
  | nil => rfl
  | cons r m =>
   cases m with
   | nil => exact hv_norm l r
   | cons q m => simp [hv, has]
theorem first_nr (l : List (Int × Int)) : NrS (norm l, (norm l, [])) := ⟨(norm_spec l).1, (norm_spec l).1, List.Pairwise.nil, fun t h => (by cases h), by simp⟩
theorem ok_first (l : List (Int × Int)) : OkS 0 (norm l, (norm l, [])) := by
  have := norm_len l
  exact ⟨by show (norm l).length ≤ _; omega, by show (norm l).length ≤ _; omega, Nat.le_refl _, fun t h => (by cases h)⟩
theorem ok_ones (l : List (Int × Int)) : OkS 0 (norm l, ([], [])) := by
  have := norm_len l
  exact ⟨by show (norm l).length ≤ _; omega, Nat.zero_le _, Nat.le_refl _, fun t h => (by cases h)⟩
def te : Tx := [101, 204, 129]
theorem te_R : R te = [101, 769] := by kernel_rfl
theorem te_of : ofS te = ([], ([], [te])) := by kernel_rfl
theorem fixed_is : fixed = some ((), (true, ())) := by
  have oe : OkS 1 (ofS te) := ok_of te (by decide)
  have ne : NrS (ofS te) := of_nr te
  have of := ok_first [((97 : Int), (122 : Int))]
  have nf := first_nr [((97 : Int), (122 : Int))]
  have f1 := sOf_is te (by decide)
  have f2 := sFirst_is [((97 : Int), (122 : Int))] (by decide)
  have f3 := sNot_is (ofS te) (oe.mono (by omega))
  generalize hF : ((norm [((97 : Int), (122 : Int))], (norm [((97 : Int), (122 : Int))], [])) : TSet) = F at of nf f2
  have f4 := sMinus_is F (ofS te) (of.mono (by omega)) (oe.mono (by omega))
  have oN := okN oe (by omega)
  have oD := okD of oe (by omega) (by omega)
  have nN := nrN (ofS te) (by have := oe.2.2.1; omega)
  have lF : F.2.2.length ≤ 10000000 := by have := of.2.2.1; omega
  have lE : (ofS te).2.2.length ≤ 10000000 := by have := oe.2.2.1; omega
  have hE : ∀ t, hasS (ofS te) t = (match R t with | _ :: _ :: _ => decide (t = te) | _ => false) := fun t => by
   rw [te_of]
   unfold hasS
   cases R t with
   | nil => rfl
   | cons r m => cases m <;> simp [hv, has]
  have H : ∀ (s : TSet) (n : Nat) (t : Tx), OkS n s → n ≤ 10000000 → t.length ≤ 10 → sHas s t = some ((), (hasS s t, ())) := fun s n t h hn ht => sHas_is s t h.1 h.2.1 (by have := h.2.2.1; omega) (by omega)
  have F5 : hasS F [101, 120] = true := by rw [← hF, hasFst]; kernel_rfl
  have F6 : hasS F [69] = false := by rw [← hF, hasFst]; kernel_rfl
  have F7 : hasS (notS (ofS te)) [101, 204, 130] = true := by rw [hasN lE, normS_same ne, hE]; kernel_rfl
  have F8 : hasS (notS (ofS te)) te = false := by rw [hasN lE, normS_same ne, hE]; kernel_rfl
  have F9 : hasS (joinS dB F (ofS te)) [101] = true := by rw [hasD lF lE, normS_same ne, normS_same nf, hE, ← hF, hasFst]; kernel_rfl
  have F10 : hasS (joinS dB F (ofS te)) te = false := by rw [hasD lF lE, normS_same ne, normS_same nf, hE, ← hF, hasFst]; kernel_rfl
  have f13 := sMay_is (notS (ofS te)) (oN.mono (by omega))
  have f14 := sNot_is (notS (ofS te)) (oN.mono (by omega))
  have oNN := okN oN (by omega)
  have f15 := sEqual_is (notS (notS (ofS te))) (ofS te) (oNN.mono (by omega)) (oe.mono (by omega))
  rw [decide_eq_true (show normS (notS (notS (ofS te))) = normS (ofS te) by rw [alg1 (by have := oe.2.2.1; omega), normS_same ne, normS_same ne])] at f15
  have f16 := sEmpty_is noS (ok_no.mono (by omega))
  have f17 := sEmpty_is (ofS te) (oe.mono (by omega))
  rw [normS_same ne, decide_eq_false (show ofS te ≠ noS by rw [te_of]; intro h; cases h)] at f17
  have f18 := sOnes_is [((97 : Int), (122 : Int))] (by decide)
  have f19 := H _ 0 [97] (ok_ones [((97 : Int), (122 : Int))]) (by omega) (by decide)
  have F19 : hasS (norm [((97 : Int), (122 : Int))], ([], [])) [97] = true := by rw [hasOns]; kernel_rfl
  have lD : (joinS dB F (ofS te)).2.2.length ≤ 10000000 := by have := oD.2.2.1; omega
  have f20 := sUnion_is (ofS te) (joinS dB F (ofS te)) (oe.mono (by omega)) (oD.mono (by omega))
  have oU := okU oe oD (by omega) (by omega)
  have F21 : hasS (joinS uB (ofS te) (joinS dB F (ofS te))) te = true := by
   rw [hasU lE lD, normS_same ne, hE te, te_R]
   simp
  have f22 := sMeet_is F (ofS te) (of.mono (by omega)) (oe.mono (by omega))
  have oM := okM of oe (by omega) (by omega)
  have F23 : hasS (joinS mB F (ofS te)) te = true := by rw [hasM lF lE, normS_same ne, normS_same nf, hE, ← hF, hasFst]; kernel_rfl
  have f24 := sNorm_is (ofS te) oe.1 oe.2.1 (by omega) oe.2.2.2
  rw [normS_same ne] at f24
  have g5 := H _ _ [101, 120] of (by omega) (by decide)
  have g6 := H _ _ [69] of (by omega) (by decide)
  have g7 := H _ _ [101, 204, 130] oN (by omega) (by decide)
  have g8 := H _ _ te oN (by omega) (by decide)
  have g9 := H _ _ [101] oD (by omega) (by decide)
  have g10 := H _ _ te oD (by omega) (by decide)
  have g12 := H _ _ [] ok_all (by omega) (by decide)
  have g21 := H _ _ te oU (by omega) (by decide)
  have g23 := H _ _ te oM (by omega) (by decide)
  rw [F5] at g5; rw [F6] at g6; rw [F7] at g7; rw [F8] at g8; rw [F9] at g9; rw [F10] at g10; rw [has_nil] at g12; rw [F21] at g21; rw [F23] at g23
  rw [normS_same nN] at f13
  rw [F19] at f19
  have hlen : (((ofS te).2.2.length : Int) == (1 : Int)) = true := by rw [te_of]; rfl
  have f1' : sOf ([101, 204, 129] : List UInt8) = _ := f1
  have f16' : sEmpty (([] : List (Int × Int)), (([] : List (Int × Int)), ([] : List (List UInt8)))) = _ := f16
  have g8' : sHas (notS (ofS te)) ([101, 204, 129] : List UInt8) = _ := g8
  have g10' : sHas (joinS dB F (ofS te)) ([101, 204, 129] : List UInt8) = _ := g10
  have g21' : sHas (joinS uB (ofS te) (joinS dB F (ofS te))) ([101, 204, 129] : List UInt8) = _ := g21
  have g23' : sHas (joinS mB F (ofS te)) ([101, 204, 129] : List UInt8) = _ := g23
  simp only [fixed, f1', f2, f3, f4, Option.bind_some, hlen, cond_true, g5, g6, Bool.not_false, g7, g8', g9, g10', sAll_is, g12, f13, decide_true, f14, f15, f16', normS_same no_nr, f17, f18, f19, f20, g21', f22, g23', f24]
def lsT (s x : Tx) : Bool := Op.bytesLess x s
def putB (A B : List Tx) (s : Tx) : List Tx := match B with
  | [] => A ++ [s]
  | x :: B => if x = s then A ++ x :: B else A ++ s :: x :: B
def putT (l : List Tx) (s : Tx) : List Tx := putB (l.takeWhile (lsT s)) (l.dropWhile (lsT s)) s
theorem put_loop1 (s : Tx) : ∀ (rest pre : List Tx) (n : Nat), pre.length + rest.length ≤ 100000000 → rest.length < n →
   iterN (fun x => put6_s3 x.1 x.2.1 x.2.2.1) n (pre ++ rest, (s, (((pre.length : Nat) : Int), ()))) = some (pre ++ rest, (s, (((pre ++ rest.takeWhile (lsT s)).length : Int), ()))) := by
  intro rest
  induction rest with
  | nil =>
   intro pre n h1 hn
   obtain ⟨n, rfl⟩ := succ_of hn
   refine iterN_inr ?_
   simp [put6_s3]
  | cons r rest ih =>
   intro pre n h1 hn
   simp only [List.length_cons] at h1 hn
   obtain ⟨n, rfl⟩ := succ_of hn
   have hlt : ((pre.length : Nat) : Int) < ((pre ++ r :: rest).length : Int) := lt_mid
   have ew : IntKind.i64.wrap (((pre.length : Nat) : Int) + 1) = (((pre ++ [r]).length : Nat) : Int) := w_mid (by omega)
   cases hc : lsT s r with
   | true =>
    have hs := ih (pre ++ [r]) n (by simp; omega) (by omega)
    rw [← app_mid, ← app_mid] at hs
    have hb : Op.bytesLess r s = true := hc
    rw [List.takeWhile_cons_of_pos hc]
    refine (iterN_inl ?_).trans hs
    simp only [put6_s3, hlt, decide_true, cond_true, lk_mid, Option.bind_some, hb, ew]
   | false =>
    have hb : Op.bytesLess r s = false := hc
    rw [List.takeWhile_cons_of_neg (by simp [hc]), List.append_nil]
    refine iterN_inr ?_
    simp only [put6_s3, hlt, decide_true, cond_true, cond_false, lk_mid, Option.bind_some, hb]
theorem set_at {α : Type} {pre rest : List α} {x y : α} : (pre ++ x :: rest).set pre.length y = pre ++ y :: rest := by simp
theorem put_loop2 (s : Tx) (A : List Tx) : ∀ (m : Nat) (B1 B2 : List Tx) (n : Nat), B1.length = m → A.length + B1.length ≤ 100000000 → m < n →
   iterN (fun x => put6_s16 x.1 x.2.1 x.2.2.1 x.2.2.2.1) n (A ++ B1 ++ s :: B2, (s, (((A.length : Nat) : Int), ((((A ++ B1).length : Nat) : Int), ())))) = some (A ++ s :: (B1 ++ B2), ()) := by
  intro m
  induction m with
  | zero =>
   intro B1 B2 n hl h1 hn
   obtain ⟨n, rfl⟩ := succ_of hn
   have : B1 = [] := List.length_eq_zero_iff.1 hl
   subst this
   refine iterN_inr ?_
   have h0 : ¬ ((((A ++ ([] : List Tx)).length : Nat) : Int) > ((A.length : Nat) : Int)) := by simp
   simp only [put6_s16, h0, decide_false, cond_false, Option.bind_some]
   simp
  | succ m ih =>
   intro B1 B2 n hl h1 hn
   obtain ⟨n, rfl⟩ := succ_of (Nat.lt_of_le_of_lt (Nat.zero_le _) hn)
   rcases List.eq_nil_or_concat B1 with e | ⟨C, y, e⟩
   ·subst e; simp at hl
   ·rw [List.concat_eq_append] at e
    subst e
    simp only [List.length_append, List.length_singleton] at hl h1
    have hs := ih C (y :: B2) n (by omega) (by omega) (by omega)
    have e1 : A ++ s :: (C ++ y :: B2) = A ++ s :: (C ++ [y] ++ B2) := by simp
    rw [e1] at hs
    refine (iterN_inl ?_).trans hs
    have hgt : ((((A ++ (C ++ [y])).length : Nat) : Int) > ((A.length : Nat) : Int)) := by simp; omega
    have ew : IntKind.i64.wrap ((((A ++ (C ++ [y])).length : Nat) : Int) - 1) = (((A ++ C).length : Nat) : Int) := by
     rw [wrap64] <;> simp <;> omega
    have l1 : A ++ (C ++ [y]) ++ s :: B2 = (A ++ C) ++ y :: s :: B2 := by simp
    have l2 : (A ++ C) ++ y :: s :: B2 = (A ++ (C ++ [y])) ++ s :: B2 := by simp
    have k1 : lk (A ++ (C ++ [y]) ++ s :: B2) (((A ++ C).length : Nat) : Int) = some y := by rw [l1]; exact lk_mid
    have k2 : lk (A ++ (C ++ [y]) ++ s :: B2) (((A ++ (C ++ [y])).length : Nat) : Int) = some s := lk_mid
    have k3 : (A ++ (C ++ [y]) ++ s :: B2).set (A ++ (C ++ [y])).length y = (A ++ C) ++ y :: y :: B2 := by rw [set_at]; simp
    have k4 : lk ((A ++ C) ++ y :: y :: B2) (((A ++ C).length : Nat) : Int) = some y := lk_mid
    have k5 : ((A ++ C) ++ y :: y :: B2).set (A ++ C).length s = (A ++ C) ++ s :: y :: B2 := set_at
    simp only [put6_s16, hgt, decide_true, cond_true, Option.bind_some, ew, k1, k2, Int.toNat_natCast, k3, k4, k5]
theorem putT_length (l : List Tx) (s : Tx) : (putT l s).length ≤ l.length + 1 := by
  have h : (l.takeWhile (lsT s)).length + (l.dropWhile (lsT s)).length = l.length := by
   rw [← List.length_append, List.takeWhile_append_dropWhile]
  unfold putT putB
  split
  ·rename_i e; rw [e] at h; simp at h ⊢; omega
  ·rename_i x B e
   rw [e] at h
   simp only [List.length_cons] at h
   split <;> simp <;> omega
theorem put6_is (l : List Tx) (s : Tx) (h : l.length ≤ 50000000) : put6 l s = some ((), (putT l s, ())) := by
  have h1 := put_loop1 s l [] fuN (by simp; omega) (by have := fuN_le; omega)
  have h1' : iterN (fun x => put6_s3 x.1 x.2.1 x.2.2.1) fuN (l, (s, ((0 : Int), ()))) = some (l, (s, (((l.takeWhile (lsT s)).length : Int), ()))) := h1
  have hsp : l.takeWhile (lsT s) ++ l.dropWhile (lsT s) = l := List.takeWhile_append_dropWhile
  have hr : roomOk (l.length + [s].length) 16 = true := by simp [roomOk]; omega
  have hlen : (l.takeWhile (lsT s)).length + (l.dropWhile (lsT s)).length = l.length := by rw [← List.length_append, hsp]
  have hw : IntKind.i64.wrap ((((l ++ [s]).length : Nat) : Int) - (1 : Int)) = ((l.length : Nat) : Int) := by
   rw [wrap64] <;> simp <;> omega
  have hwl : l.length < fuN := by have := fuN_le; omega
  unfold putT
  generalize l.takeWhile (lsT s) = A at *
  generalize hB : l.dropWhile (lsT s) = B at *
  simp only [put6, h1', Option.bind_some]
  cases B with
  | nil =>
   have hA : A = l := by simpa using hsp
   subst hA
   have n0 : ¬ ((A.length : Int) < (A.length : Int)) := by omega
   have h2 := put_loop2 s A 0 [] [] fuN rfl (by simp; omega) (by omega)
   have h2' : iterN (fun x => put6_s16 x.1 x.2.1 x.2.2.1 x.2.2.2.1) fuN (A ++ [s], (s, (((A.length : Nat) : Int), (((A.length : Nat) : Int), ())))) = some (A ++ [s], ()) := by simpa using h2
   simp only [n0, decide_false, cond_false, Option.bind_some, hr, cond_true, hw, h2', putB]
  | cons x B =>
   simp only [List.length_cons] at hlen
   have n0 : ((A.length : Int) < (l.length : Int)) := by omega
   have k1 : lk l ((A.length : Nat) : Int) = some x := by rw [← hsp]; exact lk_mid
   by_cases hx : x = s
   ·subst hx
    simp only [n0, decide_true, cond_true, Option.bind_some, k1, beq_self_eq_true, putB, if_true, hsp]
   ·have hb : (x == s) = false := by simp [hx]
    have h2 := put_loop2 s A (x :: B).length (x :: B) [] fuN rfl (by simp; omega) (by simp only [List.length_cons]; omega)
    rw [hsp] at h2
    simp only [n0, decide_true, cond_true, cond_false, Option.bind_some, k1, hb, hr, hw, h2, putB, if_neg hx, List.append_nil]
theorem putT_spec (l : List Tx) (s : Tx) (h : Ris l) : Ris (putT l s) ∧ ∀ y, y ∈ putT l s ↔ y ∈ l ∨ y = s := by
  have hsp : l.takeWhile (lsT s) ++ l.dropWhile (lsT s) = l := List.takeWhile_append_dropWhile
  have hA : ∀ y ∈ l.takeWhile (lsT s), Op.bytesLess y s = true := fun y hy => by
   have := List.all_takeWhile (l := l) (p := lsT s)
   exact List.all_eq_true.1 this y hy
  have hB : ∀ x B, l.dropWhile (lsT s) = x :: B → Op.bytesLess x s = false := fun x B e => by
   have := List.head?_dropWhile_not (lsT s) l
   rw [e] at this
   simpa [lsT] using this
  unfold putT
  generalize l.takeWhile (lsT s) = A at *
  generalize l.dropWhile (lsT s) = B at *
  subst hsp
  unfold Ris at h
  obtain ⟨g1, g2, g3⟩ := List.pairwise_append.1 h
  cases B with
  | nil =>
   refine ⟨List.pairwise_append.2 ⟨g1, List.pairwise_singleton _ _, fun y hy z hz => ?_⟩, fun y => by simp [putB]⟩
   simp only [List.mem_singleton] at hz
   subst hz
   exact hA y hy
  | cons x B =>
   have hx := hB x B rfl
   simp only [putB]
   by_cases e : x = s
   ·rw [if_pos e]
    subst e
    refine ⟨h, fun y => ⟨.inl, fun hy => ?_⟩⟩
    rcases hy with hy | rfl
    ·exact hy
    ·simp
   ·rw [if_neg e]
    have hsx : Op.bytesLess s x = true := by
     cases hc : Op.bytesLess s x with
     | true => rfl
     | false => exact absurd (bl_total x s hx hc) e
    obtain ⟨k1, k2⟩ := List.pairwise_cons.1 g2
    refine ⟨List.pairwise_append.2 ⟨g1, List.pairwise_cons.2 ⟨fun z hz => ?_, g2⟩, fun y hy z hz => ?_⟩, fun y => by
     simp only [List.mem_append, List.mem_cons]
     exact ⟨fun h => by rcases h with h | h | h | h <;> simp [h], fun h => by rcases h with (h | h | h) | h <;> simp [h]⟩⟩
    ·rcases List.mem_cons.1 hz with rfl | hz
     ·exact hsx
     ·exact bl_trans _ _ _ hsx (k1 z hz)
    ·rcases List.mem_cons.1 hz with rfl | hz
     ·exact hA y hy
     ·exact g3 y hy z hz
theorem odd6_loop : ∀ (rest pre g : List Tx) (n : Nat), (∀ t ∈ rest, t.length ≤ 10000000) → pre.length + rest.length ≤ 40000000 → g.length + rest.length ≤ 40000000 → rest.length < n →
   iterN (fun x => odd6_s2 x.1 x.2.1 x.2.2.1) n (pre ++ rest, (g, (((pre.length : Nat) : Int), ()))) = some ((rest.filter oddB).foldl putT g, ()) := by
  intro rest
  induction rest with
  | nil =>
   intro pre g n ht h1 h2 hn
   obtain ⟨n, rfl⟩ := succ_of hn
   refine iterN_inr ?_
   simp [odd6_s2]
  | cons r rest ih =>
   intro pre g n ht h1 h2 hn
   simp only [List.length_cons] at h1 h2 hn
   obtain ⟨n, rfl⟩ := succ_of hn
   have hlt : ((pre.length : Nat) : Int) < ((pre ++ r :: rest).length : Int) := lt_mid
   have ew : IntKind.i64.wrap (((pre.length : Nat) : Int) + 1) = (((pre ++ [r]).length : Nat) : Int) := w_mid (by omega)
   have hrl := ht r (by simp)
   have hg := good6_is r hrl
   have hr : runes1 (u8s r) = some ((), (R r, ())) := runes1_is (u8s r) (bytes_u8s r) (by rw [u8s_length]; exact hrl)
   have hgt : decide ((((R r).length : Nat) : Int) > (1 : Int)) = decide (1 < (R r).length) := by
    by_cases h : 1 < (R r).length
    ·rw [decide_eq_true h, decide_eq_true (by omega)]
    ·rw [decide_eq_false h, decide_eq_false (by omega)]
   cases ho : oddB r with
   | true =>
    have ho' := ho
    simp only [oddB, Bool.and_eq_true] at ho'
    have hp := put6_is g r (by omega)
    have hpl := putT_length g r
    have hs := ih (pre ++ [r]) (putT g r) n (fun t h => ht t (by simp [h])) (by simp; omega) (by omega) (by omega)
    rw [show (pre ++ [r]) ++ rest = pre ++ r :: rest by simp, show (rest.filter oddB).foldl putT (putT g r) = ((r :: rest).filter oddB).foldl putT g by simp [ho]] at hs
    refine (iterN_inl ?_).trans hs
    simp only [odd6_s2, hlt, decide_true, cond_true, lk_mid, Option.bind_some, hg, hr, ho'.1, hgt, ho'.2, hp, ew]
   | false =>
    have hs := ih (pre ++ [r]) g n (fun t h => ht t (by simp [h])) (by simp; omega) (by omega) (by omega)
    rw [show (pre ++ [r]) ++ rest = pre ++ r :: rest by simp, show rest.filter oddB = (r :: rest).filter oddB by simp [ho]] at hs
    refine (iterN_inl ?_).trans hs
    cases hgd : gd r with
    | false => simp only [odd6_s2, hlt, decide_true, cond_true, cond_false, lk_mid, Option.bind_some, hg, hgd, ew]
    | true =>
     have hn1 : decide (1 < (R r).length) = false := by
      unfold oddB at ho
      rw [hgd] at ho
      simpa using ho
     simp only [odd6_s2, hlt, decide_true, cond_true, cond_false, lk_mid, Option.bind_some, hg, hgd, hr, hgt, hn1, ew]
theorem foldl_put : ∀ (l g : List Tx), Ris g → Ris (l.foldl putT g) ∧ ∀ y, y ∈ l.foldl putT g ↔ y ∈ g ∨ y ∈ l
  | [], g, h => ⟨h, fun y => by simp⟩
  | s :: l, g, h => by
   obtain ⟨h1, h2⟩ := putT_spec g s h
   obtain ⟨h3, h4⟩ := foldl_put l (putT g s) h1
   refine ⟨h3, fun y => ?_⟩
   rw [List.foldl_cons, h4, h2, List.mem_cons, or_assoc]
theorem odd6_is (l : List Tx) (h : l.length ≤ 20000000) (ht : ∀ t ∈ l, t.length ≤ 10000000) : odd6 l = some ((), (oddL l, ())) := by
  have h1 := odd6_loop l [] [] fuN ht (by simp; omega) (by simp; omega) (by have := fuN_le; omega)
  have h1' : iterN (fun x => odd6_s2 x.1 x.2.1 x.2.2.1) fuN (l, (([] : List (List UInt8)), ((0 : Int), ()))) = some ((l.filter oddB).foldl putT [], ()) := h1
  obtain ⟨g1, g2⟩ := foldl_put (l.filter oddB) [] List.Pairwise.nil
  obtain ⟨g3, g4⟩ := oddL_spec l (by omega)
  have e : (l.filter oddB).foldl putT [] = oddL l := Ris.ext g1 g3 fun y => by rw [g2, g4]; simp [List.mem_filter]
  simp only [odd6, h1', Option.bind_some, e]
theorem norm6_is (s : TSet) (h1 : s.1.length ≤ 2000000) (h2 : s.2.1.length ≤ 2000000) (h3 : s.2.2.length ≤ 20000000) (ht : ∀ t ∈ s.2.2, t.length ≤ 10000000) : norm6 s = some ((), (normS s, ())) := by
  simp only [norm6, refNorm_is s.1 (by omega), refNorm_is s.2.1 (by omega), odd6_is s.2.2 h3 ht, Option.bind_some]
  rfl
theorem copy_loop1 (a : TSet) : ∀ (rest pre : List Rg) (n : Nat), a.1 = pre ++ rest → a.1.length ≤ 100000000 → rest.length < n →
   iterN (fun x => copy6_s4 x.1 x.2.1 x.2.2.1 x.2.2.2.1) n (a, (((), ((), ())), ((pre, ((), ())), (((pre.length : Nat) : Int), ())))) = some (a, (((), ((), ())), ((a.1, ((), ())), ()))) := by
  intro rest
  induction rest with
  | nil =>
   intro pre n e h1 hn
   obtain ⟨n, rfl⟩ := succ_of hn
   rw [List.append_nil] at e
   refine iterN_inr ?_
   simp [copy6_s4, e]
  | cons r rest ih =>
   intro pre n e h1 hn
   have hl := congrArg List.length e
   simp only [List.length_append, List.length_cons] at hn hl
   obtain ⟨n, rfl⟩ := succ_of hn
   have hlt : ((pre.length : Nat) : Int) < (a.1.length : Int) := by omega
   have hlk : lk a.1 ((pre.length : Nat) : Int) = some r := by rw [e]; exact lk_mid
   have ew : IntKind.i64.wrap (((pre.length : Nat) : Int) + 1) = (((pre ++ [r]).length : Nat) : Int) := w_mid (by omega)
   have hr : roomOk (pre.length + [r].length) 8 = true := by simp [roomOk]; omega
   refine (iterN_inl ?_).trans (ih (pre ++ [r]) n (by rw [e]; simp) h1 (by omega))
   simp only [copy6_s4, hlt, decide_true, cond_true, hlk, Option.bind_some, hr, ew]
theorem copy_loop2 (a : TSet) (S : List Rg) : ∀ (rest pre : List Rg) (n : Nat), a.2.1 = pre ++ rest → a.2.1.length ≤ 100000000 → rest.length < n →
   iterN (fun x => copy6_s15 x.1 x.2.1 x.2.2.1 x.2.2.2.1) n (a, (((), ((), ())), ((S, (pre, ())), (((pre.length : Nat) : Int), ())))) = some (a, (((), ((), ())), ((S, (a.2.1, ())), ()))) := by
  intro rest
  induction rest with
  | nil =>
   intro pre n e h1 hn
   obtain ⟨n, rfl⟩ := succ_of hn
   rw [List.append_nil] at e
   refine iterN_inr ?_
   simp [copy6_s15, e]
  | cons r rest ih =>
   intro pre n e h1 hn
   have hl := congrArg List.length e
   simp only [List.length_append, List.length_cons] at hn hl
   obtain ⟨n, rfl⟩ := succ_of hn
   have hlt : ((pre.length : Nat) : Int) < (a.2.1.length : Int) := by omega
   have hlk : lk a.2.1 ((pre.length : Nat) : Int) = some r := by rw [e]; exact lk_mid
   have ew : IntKind.i64.wrap (((pre.length : Nat) : Int) + 1) = (((pre ++ [r]).length : Nat) : Int) := w_mid (by omega)
   have hr : roomOk (pre.length + [r].length) 8 = true := by simp [roomOk]; omega
   refine (iterN_inl ?_).trans (ih (pre ++ [r]) n (by rw [e]; simp) h1 (by omega))
   simp only [copy6_s15, hlt, decide_true, cond_true, hlk, Option.bind_some, hr, ew]
theorem copy_loop3 (a : TSet) (S M : List Rg) : ∀ (rest pre : List Tx) (n : Nat), a.2.2 = pre ++ rest → a.2.2.length ≤ 100000000 → rest.length < n →
   iterN (fun x => copy6_s25 x.1 x.2.1 x.2.2.1 x.2.2.2.1) n (a, (((), ((), ())), ((S, (M, pre)), (((pre.length : Nat) : Int), ())))) = some (((), ((), ())), ((S, (M, a.2.2)), ())) := by
  intro rest
  induction rest with
  | nil =>
   intro pre n e h1 hn
   obtain ⟨n, rfl⟩ := succ_of hn
   rw [List.append_nil] at e
   refine iterN_inr ?_
   simp [copy6_s25, e]
  | cons r rest ih =>
   intro pre n e h1 hn
   have hl := congrArg List.length e
   simp only [List.length_append, List.length_cons] at hn hl
   obtain ⟨n, rfl⟩ := succ_of hn
   have hlt : ((pre.length : Nat) : Int) < (a.2.2.length : Int) := by omega
   have hlk : lk a.2.2 ((pre.length : Nat) : Int) = some r := by rw [e]; exact lk_mid
   have ew : IntKind.i64.wrap (((pre.length : Nat) : Int) + 1) = (((pre ++ [r]).length : Nat) : Int) := w_mid (by omega)
   have hr : roomOk (pre.length + [r].length) 16 = true := by simp [roomOk]; omega
   refine (iterN_inl ?_).trans (ih (pre ++ [r]) n (by rw [e]; simp) h1 (by omega))
   simp only [copy6_s25, hlt, decide_true, cond_true, hlk, Option.bind_some, hr, ew]
theorem copy6_is (a : TSet) (h1 : a.1.length ≤ 2000000) (h2 : a.2.1.length ≤ 2000000) (h3 : a.2.2.length ≤ 50000000) : copy6 a = some ((), (a, ())) := by
  have g1 := copy_loop1 a a.1 [] fuN rfl (by omega) (by have := fuN_le; omega)
  have g2 := copy_loop2 a a.1 a.2.1 [] fuN rfl (by omega) (by have := fuN_le; omega)
  have g3 := copy_loop3 a a.1 a.2.1 a.2.2 [] fuN rfl (by omega) (by have := fuN_le; omega)
  have g1' : iterN (fun x => copy6_s4 x.1 x.2.1 x.2.2.1 x.2.2.2.1) fuN (a, (((), ((), ())), ((([] : List (Int × Int)), ((), ())), ((0 : Int), ())))) = some (a, (((), ((), ())), ((a.1, ((), ())), ()))) := g1
  have g2' : iterN (fun x => copy6_s15 x.1 x.2.1 x.2.2.1 x.2.2.2.1) fuN (a, (((), ((), ())), ((a.1, (([] : List (Int × Int)), ())), ((0 : Int), ())))) = some (a, (((), ((), ())), ((a.1, (a.2.1, ())), ()))) := g2
  have g3' : iterN (fun x => copy6_s25 x.1 x.2.1 x.2.2.1 x.2.2.2.1) fuN (a, (((), ((), ())), ((a.1, (a.2.1, ([] : List (List UInt8)))), ((0 : Int), ())))) = some (((), ((), ())), ((a.1, (a.2.1, a.2.2)), ())) := g3
  simp only [copy6, g1', g2', g3', Option.bind_some]
abbrev Hd := Option (Nat × Nat × Nat)
def shp {α : Type} (q : List (Option (List α))) : List (Option Nat) := q.map fun o => o.map List.length
def GdH (s : List (Option Nat)) (h : Hd) : Prop := ∃ i n, h = some (i, 0, n) ∧ s[i]? = some (some n) ∧ n ≤ 100000000
theorem wipe_step {α : Type} {q : List (Option (List α))} {i n j : Nat} (y : α) (hs : (shp q)[i]? = some (some n)) (hj : j < n) :
   hix q (some (i, 0, n)) (j : Int) = some (i, (j : Int)) ∧ ∃ x, pget q i (j : Int) = some x ∧ shp (pset q i (j : Int) y) = shp q := by
  unfold shp at hs
  rw [List.getElem?_map] at hs
  cases hq : q[i]? with
  | none => rw [hq] at hs; cases hs
  | some o =>
   rw [hq] at hs
   cases o with
   | none => cases hs
   | some xs =>
    simp only [Option.map_some, Option.some.injEq] at hs
    subst hs
    have hlt : i < q.length := by
     rcases Nat.lt_or_ge i q.length with h | h
     ·exact h
     ·rw [List.getElem?_eq_none h] at hq; cases hq
    refine ⟨?_, xs[j], ?_, ?_⟩
    ·simp only [hix, hq]
     rw [if_pos ⟨by omega, by omega⟩]
     simp
    ·simp only [pget, hq]
     rw [if_pos (by omega)]
     simp [hj]
    ·simp only [pset, hq, shp, List.map_set]
     apply List.ext_getElem?
     intro k
     rw [List.getElem?_set]
     split
     ·rename_i e
      subst e
      have := hq
      rw [List.getElem?_eq_getElem hlt] at this
      rw [List.getElem?_map, hq]
      simp [hlt]
     ·rfl
theorem wipe1 (a2 a5 : TSet) (a10 : Hd × (Hd × Hd)) (a30 : List (Hd × (Hd × Hd))) (a31 a32 : Int) (q1 : List (Option (List Tx))) (i len : Nat) (he : a10.1 = some (i, 0, len)) (hlen : len ≤ 100000000) : ∀ (m j : Nat) (q0 : List (Option (List Rg))) (n : Nat), j + m = len → m < n → (shp q0)[i]? = some (some len) →
   ∃ q', shp q' = shp q0 ∧ iterN (fun x => lKeeps_s25 x.1.1 x.1.2.1 x.1.2.2.1 x.1.2.2.2.1 x.1.2.2.2.2.1 x.1.2.2.2.2.2.1 x.1.2.2.2.2.2.2.1 x.1.2.2.2.2.2.2.2.1 x.2.1 x.2.2.1) n ((a2, (a5, (a10, (a30, (a31, (a32, ((len : Int), ((j : Int), ())))))))), (q0, (q1, ()))) =
    some ((a2, (a5, (a10, (a30, (a31, (a32, ())))))), (q', (q1, ()))) := by
  intro m
  induction m with
  | zero =>
   intro j q0 n hj hn hs
   obtain ⟨n, rfl⟩ := succ_of hn
   refine ⟨q0, rfl, iterN_inr ?_⟩
   have h0 : ¬ ((j : Int) < (len : Int)) := by omega
   simp only [lKeeps_s25, h0, decide_false, cond_false]
  | succ m ih =>
   intro j q0 n hj hn hs
   obtain ⟨n, rfl⟩ := succ_of (Nat.lt_of_le_of_lt (Nat.zero_le _) hn)
   obtain ⟨g1, x, g2, g3⟩ := wipe_step ((0 : Int), (0 : Int)) hs (j := j) (by omega)
   obtain ⟨q', k1, k2⟩ := ih (j + 1) (pset q0 i (j : Int) ((0 : Int), (0 : Int))) n (by omega) (by omega) (by rw [g3]; exact hs)
   refine ⟨q', k1.trans g3, (iterN_inl ?_).trans k2⟩
   have h0 : ((j : Int) < (len : Int)) := by omega
   have ew : IntKind.i64.wrap ((j : Int) + 1) = ((j + 1 : Nat) : Int) := by rw [wrap64] <;> omega
   simp only [lKeeps_s25, h0, decide_true, cond_true, he, g1, g2, Option.bind_some, ew]
theorem wipe2 (a2 a5 : TSet) (a10 : Hd × (Hd × Hd)) (a30 : List (Hd × (Hd × Hd))) (a31 a32 : Int) (q1 : List (Option (List Tx))) (i len : Nat) (he : a10.2.1 = some (i, 0, len)) (hlen : len ≤ 100000000) : ∀ (m j : Nat) (q0 : List (Option (List Rg))) (n : Nat), j + m = len → m < n → (shp q0)[i]? = some (some len) →
   ∃ q', shp q' = shp q0 ∧ iterN (fun x => lKeeps_s32 x.1.1 x.1.2.1 x.1.2.2.1 x.1.2.2.2.1 x.1.2.2.2.2.1 x.1.2.2.2.2.2.1 x.1.2.2.2.2.2.2.1 x.1.2.2.2.2.2.2.2.1 x.2.1 x.2.2.1) n ((a2, (a5, (a10, (a30, (a31, (a32, ((len : Int), ((j : Int), ())))))))), (q0, (q1, ()))) =
    some ((a2, (a5, (a10, (a30, (a31, (a32, ())))))), (q', (q1, ()))) := by
  intro m
  induction m with
  | zero =>
   intro j q0 n hj hn hs
   obtain ⟨n, rfl⟩ := succ_of hn
   refine ⟨q0, rfl, iterN_inr ?_⟩
   have h0 : ¬ ((j : Int) < (len : Int)) := by omega
   simp only [lKeeps_s32, h0, decide_false, cond_false]
  | succ m ih =>
   intro j q0 n hj hn hs
   obtain ⟨n, rfl⟩ := succ_of (Nat.lt_of_le_of_lt (Nat.zero_le _) hn)
   obtain ⟨g1, x, g2, g3⟩ := wipe_step ((0 : Int), (0 : Int)) hs (j := j) (by omega)
   obtain ⟨q', k1, k2⟩ := ih (j + 1) (pset q0 i (j : Int) ((0 : Int), (0 : Int))) n (by omega) (by omega) (by rw [g3]; exact hs)
   refine ⟨q', k1.trans g3, (iterN_inl ?_).trans k2⟩
   have h0 : ((j : Int) < (len : Int)) := by omega
   have ew : IntKind.i64.wrap ((j : Int) + 1) = ((j + 1 : Nat) : Int) := by rw [wrap64] <;> omega
   simp only [lKeeps_s32, h0, decide_true, cond_true, he, g1, g2, Option.bind_some, ew]
theorem wipe3 (a2 a5 : TSet) (a10 : Hd × (Hd × Hd)) (a30 : List (Hd × (Hd × Hd))) (a31 a32 : Int) (q0 : List (Option (List Rg))) (i len : Nat) (he : a10.2.2 = some (i, 0, len)) (hlen : len ≤ 100000000) : ∀ (m j : Nat) (q1 : List (Option (List Tx))) (n : Nat), j + m = len → m < n → (shp q1)[i]? = some (some len) →
   ∃ q', shp q' = shp q1 ∧ iterN (fun x => lKeeps_s38 x.1.1 x.1.2.1 x.1.2.2.1 x.1.2.2.2.1 x.1.2.2.2.2.1 x.1.2.2.2.2.2.1 x.1.2.2.2.2.2.2.1 x.1.2.2.2.2.2.2.2.1 x.2.1 x.2.2.1) n ((a2, (a5, (a10, (a30, (a31, (a32, ((len : Int), ((j : Int), ())))))))), (q0, (q1, ()))) =
    some ((a2, (a5, (a30, (a31, (a32, ()))))), (q0, (q', ()))) := by
  intro m
  induction m with
  | zero =>
   intro j q1 n hj hn hs
   obtain ⟨n, rfl⟩ := succ_of hn
   refine ⟨q1, rfl, iterN_inr ?_⟩
   have h0 : ¬ ((j : Int) < (len : Int)) := by omega
   simp only [lKeeps_s38, h0, decide_false, cond_false]
  | succ m ih =>
   intro j q1 n hj hn hs
   obtain ⟨n, rfl⟩ := succ_of (Nat.lt_of_le_of_lt (Nat.zero_le _) hn)
   obtain ⟨g1, x, g2, g3⟩ := wipe_step ([119, 105, 112, 101, 100] : List UInt8) hs (j := j) (by omega)
   obtain ⟨q', k1, k2⟩ := ih (j + 1) (pset q1 i (j : Int) ([119, 105, 112, 101, 100] : List UInt8)) n (by omega) (by omega) (by rw [g3]; exact hs)
   refine ⟨q', k1.trans g3, (iterN_inl ?_).trans k2⟩
   have h0 : ((j : Int) < (len : Int)) := by omega
   have ew : IntKind.i64.wrap ((j : Int) + 1) = ((j + 1 : Nat) : Int) := by rw [wrap64] <;> omega
   simp only [lKeeps_s38, h0, decide_true, cond_true, he, g1, g2, Option.bind_some, ew]
theorem rows_loop (a2 a5 : TSet) : ∀ (rest pre : List (Hd × (Hd × Hd))) (q0 : List (Option (List Rg))) (q1 : List (Option (List Tx))) (n : Nat), pre.length + rest.length ≤ 1000 → rest.length < n →
   (∀ h ∈ rest, GdH (shp q0) h.1 ∧ GdH (shp q0) h.2.1 ∧ GdH (shp q1) h.2.2) →
   ∃ q0' q1', iterN (fun x => lKeeps_s20 x.1.1 x.1.2.1 x.1.2.2.1 x.1.2.2.2.1 x.1.2.2.2.2.1 x.2.1 x.2.2.1) n ((a2, (a5, (pre ++ rest, (((pre ++ rest).length : Int), (((pre.length : Nat) : Int), ()))))), (q0, (q1, ()))) = some ((a2, (a5, ())), (q0', (q1', ()))) := by
  intro rest
  induction rest with
  | nil =>
   intro pre q0 q1 n h1 hn hg
   obtain ⟨n, rfl⟩ := succ_of hn
   refine ⟨q0, q1, iterN_inr ?_⟩
   simp [lKeeps_s20]
  | cons r rest ih =>
   intro pre q0 q1 n h1 hn hg
   simp only [List.length_cons] at h1 hn
   obtain ⟨n, rfl⟩ := succ_of hn
   have hlt : ((pre.length : Nat) : Int) < ((pre ++ r :: rest).length : Int) := lt_mid
   have ew : IntKind.i64.wrap (((pre.length : Nat) : Int) + 1) = (((pre ++ [r]).length : Nat) : Int) := w_mid (by omega)
   obtain ⟨⟨i1, n1, e1, s1, b1⟩, ⟨i2, n2, e2, s2, b2⟩, ⟨i3, n3, e3, s3, b3⟩⟩ := hg r (by simp)
   obtain ⟨qa, ka, ta⟩ := wipe1 a2 a5 r (pre ++ r :: rest) ((pre ++ r :: rest).length : Int) ((pre.length : Nat) : Int) q1 i1 n1 e1 b1 n1 0 q0 fuN (by omega) (by have := fuN_le; omega) s1
   obtain ⟨qb, kb, tb⟩ := wipe2 a2 a5 r (pre ++ r :: rest) ((pre ++ r :: rest).length : Int) ((pre.length : Nat) : Int) q1 i2 n2 e2 b2 n2 0 qa fuN (by omega) (by have := fuN_le; omega) (by rw [ka]; exact s2)
   obtain ⟨qc, kc, tc⟩ := wipe3 a2 a5 r (pre ++ r :: rest) ((pre ++ r :: rest).length : Int) ((pre.length : Nat) : Int) qb i3 n3 e3 b3 n3 0 q1 fuN (by omega) (by have := fuN_le; omega) s3
   obtain ⟨x0, x1, hs⟩ := ih (pre ++ [r]) qb qc n (by simp; omega) (by omega) (fun h hh => by rw [kb, ka, kc]; exact hg h (by simp [hh]))
   rw [← app_mid] at hs
   refine ⟨x0, x1, (iterN_inl ?_).trans hs⟩
   have l1 : ((hlen r.1 : Nat) : Int) = (n1 : Int) := by rw [e1]; rfl
   have l2 : ((hlen r.2.1 : Nat) : Int) = (n2 : Int) := by rw [e2]; rfl
   have l3 : ((hlen r.2.2 : Nat) : Int) = (n3 : Int) := by rw [e3]; rfl
   have z : ((0 : Nat) : Int) = (0 : Int) := rfl
   rw [z] at ta tb tc
   simp only [lKeeps_s20, hlt, decide_true, cond_true, lk_mid, Option.bind_some, l1, ta, l2, tb, l3, tc, ew]
theorem fst_loop (a2 a5 : TSet) (M : List Rg) (O : List Tx) (q0 : List (Option (List Rg))) (q1 : List (Option (List Tx))) (len : Nat) (hlen : len ≤ 100000000) : ∀ (m j : Nat) (S : List Rg) (n : Nat), j + m = len → S.length = len → m < n →
   ∃ S', iterN (fun x => lKeeps_s48 x.1.1 x.1.2.1 x.1.2.2.1 x.1.2.2.2.1 x.1.2.2.2.2.1 x.2.1 x.2.2.1) n ((a2, (a5, ((S, (M, O)), ((len : Int), ((j : Int), ()))))), (q0, (q1, ()))) = some ((a2, (a5, ((S', (M, O)), ()))), (q0, (q1, ()))) := by
  intro m
  induction m with
  | zero =>
   intro j S n hj hS hn
   obtain ⟨n, rfl⟩ := succ_of hn
   refine ⟨S, iterN_inr ?_⟩
   have h0 : ¬ ((j : Int) < (len : Int)) := by omega
   simp only [lKeeps_s48, h0, decide_false, cond_false]
  | succ m ih =>
   intro j S n hj hS hn
   obtain ⟨n, rfl⟩ := succ_of (Nat.lt_of_le_of_lt (Nat.zero_le _) hn)
   obtain ⟨S', hs⟩ := ih (j + 1) (S.set j ((3 : Int), (3 : Int))) n (by omega) (by simp [hS]) (by omega)
   refine ⟨S', (iterN_inl ?_).trans hs⟩
   have h0 : ((j : Int) < (len : Int)) := by omega
   have ew : IntKind.i64.wrap ((j : Int) + 1) = ((j + 1 : Nat) : Int) := by rw [wrap64] <;> omega
   have hlk : lk S (j : Int) = some (S[j]'(by omega)) := by
    unfold lk
    rw [if_pos (by omega)]
    simp
   simp only [lKeeps_s48, h0, decide_true, cond_true, hlk, Option.bind_some, ew, Int.toNat_natCast]
theorem lKeeps_is (a b : TSet) (ha : OkS 1100000 a) (hb : OkS 1100000 b) : lKeeps a b = some ((), (true, ())) := by
  obtain ⟨h1, h2, h3, ht⟩ := ha
  have hc := copy6_is a h1 h2 (by omega)
  have hU := sUnion_is a b (OkS.mono ⟨h1, h2, h3, ht⟩ (by decide)) (OkS.mono hb (by decide))
  have hN := sNorm_is a h1 h2 (by omega) ht
  have hO := sNot_is a (OkS.mono ⟨h1, h2, h3, ht⟩ (by decide))
  have hF := sFirst_is a.1 h1
  have hS := same6_is a a h1 h2 (by omega)
  have hR := refNorm_is a.1 (by omega)
  have hRS := refSame_is (norm a.1) (norm a.1) (by have := norm_len a.1; omega)
  have hN6 := norm6_is a h1 h2 (by omega) ht
  have okU' := okU (a := a) (b := b) ⟨h1, h2, h3, ht⟩ hb (by decide) (by decide)
  have okN' := ok_norm (n := 1100000) (s := a) ⟨h1, h2, h3, ht⟩ (by decide)
  have okO' := okN (a := a) ⟨h1, h2, h3, ht⟩ (by decide)
  have hSS := same6_is (normS a) (normS a) okN'.1 okN'.2.1 (by have := okN'.2.2.1; omega)
  generalize hx : joinS uB a b = x at *
  generalize hz : notS a = z at *
  generalize hy : normS a = y at *
  obtain ⟨u0, u1, hrow⟩ := rows_loop a a
   [((some (0, 0, x.1.length) : Hd), ((some (1, 0, x.2.1.length) : Hd), (some (0, 0, x.2.2.length) : Hd))), ((some (2, 0, y.1.length) : Hd), ((some (3, 0, y.2.1.length) : Hd), (some (1, 0, y.2.2.length) : Hd))), ((some (4, 0, z.1.length) : Hd), ((some (5, 0, z.2.1.length) : Hd), (some (2, 0, z.2.2.length) : Hd)))] []
   [some x.1, some x.2.1, some y.1, some y.2.1, some z.1, some z.2.1] [some x.2.2, some y.2.2, some z.2.2] fuN (by simp) (by have := fuN_le; simp; omega) (fun h hh => by
    have b1 := okU'.1; have b2 := okU'.2.1; have b3 := okU'.2.2.1
    have c1 := okN'.1; have c2 := okN'.2.1; have c3 := okN'.2.2.1
    have d1 := okO'.1; have d2 := okO'.2.1; have d3 := okO'.2.2.1
    simp only [List.mem_cons, List.not_mem_nil, or_false] at hh
    rcases hh with rfl | rfl | rfl
    ·exact ⟨⟨0, _, rfl, rfl, by omega⟩, ⟨1, _, rfl, rfl, by omega⟩, ⟨0, _, rfl, rfl, by omega⟩⟩
    ·exact ⟨⟨2, _, rfl, rfl, by omega⟩, ⟨3, _, rfl, rfl, by omega⟩, ⟨1, _, rfl, rfl, by omega⟩⟩
    ·exact ⟨⟨4, _, rfl, rfl, by omega⟩, ⟨5, _, rfl, rfl, by omega⟩, ⟨2, _, rfl, rfl, by omega⟩⟩)
  obtain ⟨S', hfst⟩ := fst_loop a a (norm a.1) [] u0 u1 (norm a.1).length (by have := norm_len a.1; omega) (norm a.1).length 0 (norm a.1) fuN (by omega) rfl (by have := fuN_le; have := norm_len a.1; omega)
  simp only [lKeeps, fixed_is, Option.bind_some, Bool.not_true, cond_false, hc, hU, hN, hO]
  erw [hrow]
  simp only [Option.bind_some, hF]
  erw [hfst]
  simp only [Option.bind_some, hS, decide_true, cond_true, hR, hRS, hN, hN6, hSS]
end
end Go.Vu.Sg
