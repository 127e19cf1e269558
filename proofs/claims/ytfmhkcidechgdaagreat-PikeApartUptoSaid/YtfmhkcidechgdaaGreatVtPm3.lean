/- The reference's normal sets. -/
import Derived.Test.YtfmhkcidechgdaaGreatVtPm2
set_option linter.unusedVariables false
set_option maxRecDepth 100000
namespace Go.Vt.Pk
open Go Go.Vt Go.Vt.Rm Go.Sort Go.Vt.Srt
theorem roomN {n k : Nat} (hk : k ≤ 1024) (h : n ≤ 1000000000) : roomOk n k = true := by
  unfold roomOk
  simp only [decide_eq_true_eq]
  have : n * k ≤ 1000000000 * 1024 := Nat.mul_le_mul h hk
  omega
def ins (s : Tx) : List Tx → List Tx
  | [] => [s]
  | x :: l => if Op.bytesLess x s = true then x :: ins s l else if x = s then x :: l else s :: x :: l
theorem ins_mem (s : Tx) : ∀ (l : List Tx) (y : Tx), y ∈ ins s l ↔ y = s ∨ y ∈ l
  | [], y => by simp [ins]
  | x :: l, y => by
    simp only [ins]
    split
    · simp only [List.mem_cons, ins_mem s l]; constructor <;> (rintro (h | h | h) <;> simp [h])
    · split
      · rename_i h; subst h; simp
      · simp
theorem ins_ris (s : Tx) : ∀ (l : List Tx), Ris l → Ris (ins s l)
  | [], h => List.pairwise_singleton _ _
  | x :: l, h => by
    obtain ⟨h1, h2⟩ := List.pairwise_cons.1 h
    simp only [ins]
    split
    · rename_i hx
      refine List.pairwise_cons.2 ⟨fun y hy => ?_, ins_ris s l h2⟩
      rcases (ins_mem s l y).1 hy with rfl | hy
      · exact hx
      · exact h1 y hy
    · rename_i hx
      split
      · exact h
      · rename_i hne
        have hsx : Op.bytesLess s x = true := by
          cases hb : Op.bytesLess s x with
          | true => rfl
          | false => exact absurd (bl_total x s (by simpa using hx) hb) hne
        refine List.pairwise_cons.2 ⟨fun y hy => ?_, h⟩
        rcases List.mem_cons.1 hy with rfl | hy
        · exact hsx
        · exact bl_trans _ _ _ hsx (h1 y hy)
theorem ins_length (s : Tx) : ∀ (l : List Tx), (ins s l).length ≤ l.length + 1
  | [] => by simp [ins]
  | x :: l => by
    have := ins_length s l
    simp only [ins]
    split
    · simp; omega
    · split <;> simp
def lower (s : Tx) : List Tx → Nat
  | [] => 0
  | x :: l => if Op.bytesLess x s = true then lower s l + 1 else 0
theorem put_find (s : Tx) : ∀ (rest pre : List Tx) (n : Nat), pre.length + rest.length ≤ 100000000 → rest.length < n →
    iterN (fun x => put6_s3 x.1 x.2.1 x.2.2.1) n (pre ++ rest, (s, (((pre.length : Nat) : Int), ()))) = some (pre ++ rest, (s, (((pre.length + lower s rest : Nat) : Int), ()))) := by
  intro rest
  induction rest with
  | nil =>
    intro pre n h1 hn
    obtain ⟨n, rfl⟩ := succ_of hn
    refine iterN_inr ?_
    simp [put6_s3, lower]
  | cons r rest ih =>
    intro pre n h1 hn
    simp only [List.length_cons] at h1 hn
    obtain ⟨n, rfl⟩ := succ_of hn
    have hlt : ((pre.length : Nat) : Int) < ((pre ++ r :: rest).length : Int) := lt_mid
    have ew : IntKind.i64.wrap (((pre.length : Nat) : Int) + 1) = (((pre ++ [r]).length : Nat) : Int) := w_mid (by omega)
    cases hc : Op.bytesLess r s with
    | true =>
      have hs := ih (pre ++ [r]) n (by simp; omega) (by omega)
      rw [← app_mid] at hs
      rw [show pre.length + lower s (r :: rest) = (pre ++ [r]).length + lower s rest by simp [lower, hc]; omega]
      refine (iterN_inl ?_).trans hs
      simp only [put6_s3, hlt, decide_true, cond_true, lk_mid, Option.bind_some, hc, ew]
    | false =>
      rw [show pre.length + lower s (r :: rest) = pre.length by simp [lower, hc]]
      refine iterN_inr ?_
      simp only [put6_s3, hlt, decide_true, cond_true, cond_false, lk_mid, Option.bind_some, hc]
theorem set_app {α : Type} (a b : List α) (x y : α) : (a ++ x :: b).set a.length y = a ++ y :: b := by simp
theorem put_move (s : Tx) (A : List Tx) : ∀ (k : Nat) (M1 M2 : List Tx) (n : Nat), M1.length = k → A.length + M1.length + M2.length ≤ 100000000 → k < n →
    iterN (fun x => put6_s16 x.1 x.2.1 x.2.2.1 x.2.2.2.1) n (A ++ M1 ++ s :: M2, (s, (((A.length : Nat) : Int), ((((A ++ M1).length : Nat) : Int), ())))) = some (A ++ s :: (M1 ++ M2), ()) := by
  intro k
  induction k with
  | zero =>
    intro M1 M2 n hk h1 hn
    obtain ⟨n, rfl⟩ := succ_of hn
    have : M1 = [] := List.length_eq_zero_iff.1 hk
    subst this
    refine iterN_inr ?_
    simp [put6_s16]
  | succ k ih =>
    intro M1 M2 n hk h1 hn
    obtain ⟨n, rfl⟩ := succ_of (Nat.lt_of_le_of_lt (Nat.zero_le _) hn)
    rcases List.eq_nil_or_concat M1 with rfl | ⟨M, m, rfl⟩
    · simp at hk
    rw [List.concat_eq_append] at hk h1 ⊢
    simp only [List.length_append, List.length_cons, List.length_nil] at hk h1
    have hs := ih M (m :: M2) n (by omega) (by simp; omega) (by omega)
    have e0 : A ++ s :: (M ++ [m] ++ M2) = A ++ s :: (M ++ m :: M2) := by simp
    rw [e0]
    refine (iterN_inl ?_).trans hs
    have hgt : ((((A ++ (M ++ [m])).length : Nat) : Int) > ((A.length : Nat) : Int)) := by simp; omega
    have ew : IntKind.i64.wrap ((((A ++ (M ++ [m])).length : Nat) : Int) - 1) = (((A ++ M).length : Nat) : Int) := by
      rw [wrap64] <;> simp <;> omega
    have e1 : A ++ (M ++ [m]) ++ s :: M2 = (A ++ M) ++ m :: (s :: M2) := by simp
    have e2 : A ++ (M ++ [m]) ++ s :: M2 = (A ++ M ++ [m]) ++ s :: M2 := by simp
    have l1 : lk (A ++ (M ++ [m]) ++ s :: M2) (((A ++ M).length : Nat) : Int) = some m := by rw [e1]; exact lk_mid
    have l2 : lk (A ++ (M ++ [m]) ++ s :: M2) (((A ++ (M ++ [m])).length : Nat) : Int) = some s := by
      rw [show (A ++ (M ++ [m])).length = (A ++ M ++ [m]).length by simp, e2]; exact lk_mid
    have s1 : (A ++ (M ++ [m]) ++ s :: M2).set (((A ++ (M ++ [m])).length : Nat) : Int).toNat m = (A ++ M) ++ m :: (m :: M2) := by
      rw [Int.toNat_natCast, show (A ++ (M ++ [m])).length = (A ++ M ++ [m]).length by simp, e2, set_app]; simp
    have l3 : lk ((A ++ M) ++ m :: (m :: M2)) (((A ++ M).length : Nat) : Int) = some m := lk_mid
    have s2 : ((A ++ M) ++ m :: (m :: M2)).set (((A ++ M).length : Nat) : Int).toNat s = A ++ M ++ s :: (m :: M2) := by
      rw [Int.toNat_natCast, set_app]
    simp only [put6_s16, hgt, decide_true, cond_true, ew, l1, l2, Option.bind_some, s1, l3, s2]
theorem ins_split (s : Tx) : ∀ (l : List Tx), ∃ A B, l = A ++ B ∧ A.length = lower s l ∧ (B = [] ∨ ∃ x B', B = x :: B' ∧ Op.bytesLess x s = false) ∧ ins s l = A ++ (match B with | [] => [s] | x :: B' => if x = s then x :: B' else s :: x :: B')
  | [] => ⟨[], [], rfl, rfl, .inl rfl, rfl⟩
  | x :: l => by
    cases hc : Op.bytesLess x s with
    | true =>
      obtain ⟨A, B, h1, h2, h3, h4⟩ := ins_split s l
      exact ⟨x :: A, B, by simp [h1], by simp [lower, hc, h2], h3, by simp [ins, hc, h4]⟩
    | false => exact ⟨[], x :: l, rfl, by simp [lower, hc], .inr ⟨x, l, rfl, hc⟩, by simp [ins, hc]⟩
theorem put6_is (s : Tx) (l : List Tx) (h : l.length ≤ 50000000) : put6 l s = some ((), (ins s l, ())) := by
  obtain ⟨A, B, h1, h2, h3, h4⟩ := ins_split s l
  have f := put_find s l [] fuN (by simp; omega) (by have := fuN_le; omega)
  have f' : iterN (fun x => put6_s3 x.1 x.2.1 x.2.2.1) fuN (l, (s, ((0 : Int), ()))) = some (l, (s, (((A.length : Nat) : Int), ()))) := by
    have := f; simp only [List.nil_append, List.length_nil, Nat.zero_add] at this; rw [h2]; exact this
  simp only [put6, f', Option.bind_some]
  have hmove : ∀ (x : Tx), l = A ++ B → (B = [] ∨ ∃ x B', B = x :: B' ∧ x ≠ s) → iterN (fun x => put6_s16 x.1 x.2.1 x.2.2.1 x.2.2.2.1) fuN (l ++ [s], (s, (((A.length : Nat) : Int), (IntKind.i64.wrap (((l ++ [s]).length : Int) - 1), ())))) = some (A ++ s :: B, ()) := by
    intro _ hl _
    have m := put_move s A B.length B [] fuN rfl (by rw [hl] at h; simp at h ⊢; omega) (by rw [hl] at h; simp at h; have := fuN_le; omega)
    have ew : IntKind.i64.wrap (((l ++ [s]).length : Int) - 1) = (((A ++ B).length : Nat) : Int) := by
      rw [hl] at h ⊢
      rw [wrap64] <;> simp at h ⊢ <;> omega
    rw [ew, hl]
    simpa using m
  have hroom : roomOk (l.length + [s].length) 16 = true := roomN (by omega) (by simp; omega)
  rcases h3 with rfl | ⟨x, B', rfl, hx⟩
  · simp only [List.append_nil] at h1
    subst h1
    have hn : ¬ ((l.length : Nat) : Int) < (l.length : Int) := by omega
    have hm := hmove s (by simp) (.inl rfl)
    simp only [hn, decide_false, cond_false, Option.bind_some, hroom, cond_true, hm, h4]
  · have hlt : ((A.length : Nat) : Int) < (l.length : Int) := by rw [h1]; exact lt_mid
    have hk : lk l ((A.length : Nat) : Int) = some x := by rw [h1]; exact lk_mid
    by_cases hxs : x = s
    · have hb : (x == s) = true := by simpa using hxs
      simp only [hlt, decide_true, cond_true, hk, Option.bind_some, hb, h4, if_pos hxs, ← h1]
    · have hb : (x == s) = false := by simpa using hxs
      have hm := hmove s h1 (.inr ⟨x, B', rfl, hxs⟩)
      simp only [hlt, decide_true, cond_true, cond_false, hk, Option.bind_some, hb, hroom, hm, h4, if_neg hxs]
def oddF (l : List Tx) (g : List Tx) : List Tx := l.foldl (fun r t => if oddB t = true then ins t r else r) g
theorem oddF_spec : ∀ (l g : List Tx), Ris g → Ris (oddF l g) ∧ ∀ y, y ∈ oddF l g ↔ y ∈ g ∨ (y ∈ l ∧ oddB y = true)
  | [], g, h => ⟨h, fun y => by simp [oddF]⟩
  | t :: l, g, h => by
    have key : oddF (t :: l) g = oddF l (if oddB t = true then ins t g else g) := rfl
    rw [key]
    by_cases ht : oddB t = true
    · rw [if_pos ht]
      obtain ⟨h1, h2⟩ := oddF_spec l _ (ins_ris t g h)
      refine ⟨h1, fun y => ?_⟩
      rw [h2, ins_mem, List.mem_cons]
      constructor
      · rintro ((rfl | h) | ⟨h, h'⟩)
        · exact .inr ⟨.inl rfl, ht⟩
        · exact .inl h
        · exact .inr ⟨.inr h, h'⟩
      · rintro (h | ⟨rfl | h, h'⟩)
        · exact .inl (.inr h)
        · exact .inl (.inl rfl)
        · exact .inr ⟨h, h'⟩
    · rw [if_neg ht]
      obtain ⟨h1, h2⟩ := oddF_spec l g h
      refine ⟨h1, fun y => ?_⟩
      rw [h2, List.mem_cons]
      constructor
      · rintro (h | ⟨h, h'⟩)
        · exact .inl h
        · exact .inr ⟨.inr h, h'⟩
      · rintro (h | ⟨rfl | h, h'⟩)
        · exact .inl h
        · exact absurd h' ht
        · exact .inr ⟨h, h'⟩
theorem odd6_loop : ∀ (rest pre g : List Tx) (n : Nat), (∀ t ∈ rest, t.length ≤ 10000000) → pre.length + rest.length ≤ 50000000 → g.length + rest.length ≤ 50000000 → rest.length < n →
    iterN (fun x => odd6_s2 x.1 x.2.1 x.2.2.1) n (pre ++ rest, (g, (((pre.length : Nat) : Int), ()))) = some (oddF rest g, ()) := by
  intro rest
  induction rest with
  | nil =>
    intro pre g n ht h1 h2 hn
    obtain ⟨n, rfl⟩ := succ_of hn
    refine iterN_inr ?_
    simp [odd6_s2, oddF]
  | cons r rest ih =>
    intro pre g n ht h1 h2 hn
    simp only [List.length_cons] at h1 h2 hn
    obtain ⟨n, rfl⟩ := succ_of hn
    have hlt : ((pre.length : Nat) : Int) < ((pre ++ r :: rest).length : Int) := lt_mid
    have ew : IntKind.i64.wrap (((pre.length : Nat) : Int) + 1) = (((pre ++ [r]).length : Nat) : Int) := w_mid (by omega)
    have hr := ht r (by simp)
    have hg := good6_is r hr
    have hru : runes1 (u8s r) = some ((), (R r, ())) := runes1_is (u8s r) (bytes_u8s r) (by rw [u8s_length]; exact hr)
    have key : oddF (r :: rest) g = oddF rest (if oddB r = true then ins r g else g) := rfl
    rw [key]
    cases ho : gd r with
    | false =>
      have hob : oddB r = false := by simp [oddB, ho]
      have hs := ih (pre ++ [r]) g n (fun t h => ht t (by simp [h])) (by simp; omega) (by omega) (by omega)
      rw [← app_mid] at hs
      rw [hob, if_neg (by simp)]
      refine (iterN_inl ?_).trans hs
      simp only [odd6_s2, hlt, decide_true, cond_true, cond_false, lk_mid, Option.bind_some, hg, ho, ew]
    | true =>
      by_cases hc : 1 < (R r).length
      · have hob : oddB r = true := by simp [oddB, ho, hc]
        have hs := ih (pre ++ [r]) (ins r g) n (fun t h => ht t (by simp [h])) (by simp; omega) (by have := ins_length r g; omega) (by omega)
        rw [← app_mid] at hs
        rw [hob, if_pos rfl]
        have hc' : ((R r).length : Int) > 1 := by omega
        refine (iterN_inl ?_).trans hs
        simp only [odd6_s2, hlt, decide_true, cond_true, lk_mid, Option.bind_some, hg, ho, hru, hc', put6_is r g (by omega), ew]
      · have hob : oddB r = false := by simp [oddB, hc]
        have hs := ih (pre ++ [r]) g n (fun t h => ht t (by simp [h])) (by simp; omega) (by omega) (by omega)
        rw [← app_mid] at hs
        rw [hob, if_neg (by simp)]
        have hc' : ¬ ((R r).length : Int) > 1 := by omega
        refine (iterN_inl ?_).trans hs
        simp only [odd6_s2, hlt, decide_true, decide_false, cond_true, cond_false, lk_mid, Option.bind_some, hg, ho, hru, hc', ew]
theorem odd6_is (l : List Tx) (h : l.length ≤ 20000000) (ht : ∀ t ∈ l, t.length ≤ 10000000) : odd6 l = some ((), (oddL l, ())) := by
  have h1 := odd6_loop l [] [] fuN ht (by simp; omega) (by simp; omega) (by have := fuN_le; omega)
  have h1' : iterN (fun x => odd6_s2 x.1 x.2.1 x.2.2.1) fuN (l, (([] : List Tx), ((0 : Int), ()))) = some (oddF l [], ()) := h1
  obtain ⟨a1, a2⟩ := oddF_spec l [] List.Pairwise.nil
  obtain ⟨b1, b2⟩ := oddL_spec l (by omega)
  have e : oddF l [] = oddL l := Ris.ext a1 b1 fun y => by rw [a2, b2]; simp
  simp only [odd6, h1', Option.bind_some, e]
theorem norm6_is (s : TSet) (h1 : s.1.length ≤ 2000000) (h2 : s.2.1.length ≤ 2000000) (h3 : s.2.2.length ≤ 20000000) (ht : ∀ t ∈ s.2.2, t.length ≤ 10000000) : norm6 s = some ((), (normS s, ())) := by
  simp only [norm6, refNorm_is s.1 (by omega), refNorm_is s.2.1 (by omega), odd6_is s.2.2 h3 ht, Option.bind_some]
  rfl
end Go.Vt.Pk
