/- The sort's values' functions are the plain sort's: bits, patterns, the pivot. -/
import Derived.Test.YtaeobljnmfbdmaaVuSort2
set_option linter.unusedVariables false
set_option maxRecDepth 100000
namespace Go.Vu.Srt
open Go Go.Vu Go.Sort
theorem bitsLen_shift (m k : Nat) (h : 2 ^ k ≤ m) : Sort.bitsLen m = k + Sort.bitsLen (m / 2 ^ k) := by
  have key : ∀ c, Sort.bitsLen m ≤ c ↔ k + Sort.bitsLen (m / 2 ^ k) ≤ c := by
   intro c
   rw [bitsLen_le_iff]
   by_cases hc : k ≤ c
   ·obtain ⟨e, rfl⟩ : ∃ e, c = k + e := ⟨c - k, by omega⟩
    have : k + Sort.bitsLen (m / 2 ^ k) ≤ k + e ↔ Sort.bitsLen (m / 2 ^ k) ≤ e := by omega
    rw [this, bitsLen_le_iff, Nat.div_lt_iff_lt_mul (Nat.two_pow_pos k), Nat.pow_add, Nat.mul_comm]
   ·have : 2 ^ c ≤ 2 ^ k := Nat.pow_le_pow_right (by omega) (by omega)
    constructor <;> intro h2 <;> omega
  have h1 := (key (Sort.bitsLen m)).1 (Nat.le_refl _)
  have h2 := (key (k + Sort.bitsLen (m / 2 ^ k))).2 (Nat.le_refl _)
  omega
theorem fdiv_nat (m k : Nat) : Int.fdiv (m : Int) ((k : Nat) : Int) = ((m / k : Nat) : Int) := by
  rw [Int.fdiv_eq_ediv_of_nonneg _ (by omega)]; rfl
def tab8 : List UInt8 := [0, 1, 2, 2, 3, 3, 3, 3, 4, 4, 4, 4, 4, 4, 4, 4, 5, 5, 5, 5, 5, 5, 5, 5, 5, 5, 5, 5, 5, 5, 5, 5, 6, 6, 6, 6, 6, 6, 6, 6, 6, 6, 6, 6, 6, 6, 6, 6, 6, 6, 6, 6, 6, 6, 6, 6, 6, 6, 6, 6, 6, 6, 6, 6] ++ List.replicate 64 7 ++ List.replicate 128 8
theorem tab8_at : ∀ x : Fin 256, tab8[x.val]? = some (UInt8.ofNat (Sort.bitsLen x.val)) := by decide +kernel
theorem bitsLen_8 {x : Nat} (h : x < 256) : Sort.bitsLen x ≤ 8 := (bitsLen_le_iff x 8).2 h
theorem tab8_lk {x : Nat} (h : x < 256) : lk tab8 (x : Int) = some (UInt8.ofNat (Sort.bitsLen x)) := by
  unfold lk
  rw [if_pos (by omega)]
  exact tab8_at ⟨x, h⟩
theorem len64_tie (m : Nat) (hm : m < 9223372036854775808) : len64 (m : Int) = some ((), (((Sort.bitsLen m : Nat) : Int), ())) := by
  have fin : ∀ (x n : Nat), x < 256 → n < 64 → Sort.bitsLen m = n + Sort.bitsLen x →
    (Option.bind (lk tab8 (IntKind.u8.wrap (x : Int))) fun b9 => some ((), (IntKind.i64.wrap ((n : Int) + (IntKind.i64.wrap ((b9.toNat : Int)))), ()))) = some ((), (((Sort.bitsLen m : Nat) : Int), ())) := by
   intro x n hx hn he
   have h8 := bitsLen_8 hx
   have e1 : IntKind.u8.wrap (x : Int) = (x : Int) := by
    simp only [IntKind.wrap, IntKind.signed, IntKind.bits]; simp; omega
   have e2 : (UInt8.ofNat (Sort.bitsLen x)).toNat = Sort.bitsLen x := by simp; omega
   rw [e1, tab8_lk hx]
   simp only [e2, Option.bind_some]
   rw [wrap64 (x := ((Sort.bitsLen x : Nat) : Int)) (by omega) (by omega), wrap64 (by omega) (by omega), he]
   simp
  have p32 : (2 : Int) ^ (min (32 : Int).toNat IntKind.u64.bits) = ((4294967296 : Nat) : Int) := by decide
  have p16 : (2 : Int) ^ (min (16 : Int).toNat IntKind.u64.bits) = ((65536 : Nat) : Int) := by decide
  have p8 : (2 : Int) ^ (min (8 : Int).toNat IntKind.u64.bits) = ((256 : Nat) : Int) := by decide
  obtain ⟨x1, n1, hx1, hn1, he1, h1⟩ : ∃ x1 n1 : Nat, x1 < 4294967296 ∧ n1 ≤ 32 ∧ Sort.bitsLen m = n1 + Sort.bitsLen x1 ∧
    (bif (decide ((m : Int) ≥ (4294967296 : Int))) then
     bif (decide (0 ≤ (32 : Int))) then
     some ((Int.fdiv (m : Int) (2 ^ (min (32 : Int).toNat IntKind.u64.bits))), ((32 : Int), ()))
     else none
     else
     some ((m : Int), ((0 : Int), ()))) = some ((x1 : Int), ((n1 : Int), ())) := by
   by_cases h : m ≥ 4294967296
   ·refine ⟨m / 4294967296, 32, by omega, by omega, bitsLen_shift m 32 h, ?_⟩
    rw [show decide ((m : Int) ≥ (4294967296 : Int)) = true by simp; omega, p32, fdiv_nat]
    rfl
   ·refine ⟨m, 0, by omega, by omega, by omega, ?_⟩
    rw [show decide ((m : Int) ≥ (4294967296 : Int)) = false by simp; omega]
    rfl
  obtain ⟨x2, n2, hx2, hn2, he2, h2⟩ : ∃ x2 n2 : Nat, x2 < 65536 ∧ n2 ≤ 48 ∧ Sort.bitsLen m = n2 + Sort.bitsLen x2 ∧
    (bif (decide ((x1 : Int) ≥ (65536 : Int))) then
     bif (decide (0 ≤ (16 : Int))) then
     some ((Int.fdiv (x1 : Int) (2 ^ (min (16 : Int).toNat IntKind.u64.bits))), ((IntKind.i64.wrap ((n1 : Int) + (16 : Int))), ()))
     else none
     else
     some ((x1 : Int), ((n1 : Int), ()))) = some ((x2 : Int), ((n2 : Int), ())) := by
   by_cases h : x1 ≥ 65536
   ·refine ⟨x1 / 65536, n1 + 16, by omega, by omega, by have e := bitsLen_shift x1 16 h; rw [show (2 : Nat) ^ 16 = 65536 from rfl] at e; omega, ?_⟩
    rw [show decide ((x1 : Int) ≥ (65536 : Int)) = true by simp; omega, p16, fdiv_nat, wrap64 (by omega) (by omega)]
    rfl
   ·refine ⟨x1, n1, by omega, by omega, he1, ?_⟩
    rw [show decide ((x1 : Int) ≥ (65536 : Int)) = false by simp; omega]
    rfl
  obtain ⟨x3, n3, hx3, hn3, he3, h3⟩ : ∃ x3 n3 : Nat, x3 < 256 ∧ n3 ≤ 56 ∧ Sort.bitsLen m = n3 + Sort.bitsLen x3 ∧
    (bif (decide ((x2 : Int) ≥ (256 : Int))) then
     bif (decide (0 ≤ (8 : Int))) then
     some ((Int.fdiv (x2 : Int) (2 ^ (min (8 : Int).toNat IntKind.u64.bits))), ((IntKind.i64.wrap ((n2 : Int) + (8 : Int))), ()))
     else none
     else
     some ((x2 : Int), ((n2 : Int), ()))) = some ((x3 : Int), ((n3 : Int), ())) := by
   by_cases h : x2 ≥ 256
   ·refine ⟨x2 / 256, n2 + 8, by omega, by omega, by have e := bitsLen_shift x2 8 h; rw [show (2 : Nat) ^ 8 = 256 from rfl] at e; omega, ?_⟩
    rw [show decide ((x2 : Int) ≥ (256 : Int)) = true by simp; omega, p8, fdiv_nat, wrap64 (by omega) (by omega)]
    rfl
   ·refine ⟨x2, n2, by omega, by omega, he2, ?_⟩
    rw [show decide ((x2 : Int) ≥ (256 : Int)) = false by simp; omega]
    rfl
  have h4 := fin x3 n3 hx3 (by omega) he3
  unfold len64
  simp only [h1, h2, h3, Option.bind_some]
  exact h4
theorem bitsLen_tie (m : Nat) (hm : m < 9223372036854775808) : Srt.bitsLen (m : Int) = some ((), (((Sort.bitsLen m : Nat) : Int), ())) := by
  simp only [Option.bind_some, Srt.bitsLen, len64_tie m hm]
theorem nextPow_tie (m : Nat) (hm : m < 2305843009213693952) : nextPow (m : Int) = some ((), (((2 ^ Sort.bitsLen m : Nat) : Int), ())) := by
  have h1 : Sort.bitsLen m ≤ 61 := (bitsLen_le_iff m 61).2 hm
  have h2 : (2 : Nat) ^ Sort.bitsLen m ≤ 2 ^ 61 := Nat.pow_le_pow_right (by omega) h1
  have e0 : IntKind.u64.wrap (m : Int) = (m : Int) := wrapu64 (by omega) (by omega)
  have e1 : min (((Sort.bitsLen m : Nat) : Int).toNat) IntKind.u64.bits = Sort.bitsLen m := by
   simp only [Int.toNat_natCast, IntKind.bits]; omega
  have e2 : (1 : Int) * 2 ^ Sort.bitsLen m = ((2 ^ Sort.bitsLen m : Nat) : Int) := by simp
  have e3 : IntKind.u64.wrap ((2 ^ Sort.bitsLen m : Nat) : Int) = ((2 ^ Sort.bitsLen m : Nat) : Int) := by
   generalize (2 : Nat) ^ Sort.bitsLen m = z at h2 ⊢
   exact wrapu64 (by omega) (by omega)
  have e4 : decide (0 ≤ ((Sort.bitsLen m : Nat) : Int)) = true := by simp
  simp only [Option.bind_some, nextPow, e0, bitsLen_tie m (by omega), e1, e2, e3, e4, cond_true]
theorem xor_u (x y : Int) : ∃ r : Nat, r < 18446744073709551616 ∧ IntKind.u64.wrap (((BitVec.ofInt IntKind.u64.bits x ^^^ BitVec.ofInt IntKind.u64.bits y).toNat : Int)) = (r : Int) := by
  refine ⟨(BitVec.ofInt 64 x ^^^ BitVec.ofInt 64 y).toNat, (BitVec.ofInt 64 x ^^^ BitVec.ofInt 64 y).isLt, ?_⟩
  show IntKind.u64.wrap (((BitVec.ofInt 64 x ^^^ BitVec.ofInt 64 y).toNat : Int)) = _
  have := (BitVec.ofInt 64 x ^^^ BitVec.ofInt 64 y).isLt
  rw [wrapu64 (by omega) (by omega)]
theorem xorNext_some (r : Int) : ∃ q : Nat, q < 18446744073709551616 ∧ Srt.xorNext r = some ((q : Int), ((q : Int), ())) := by
  have h13 : decide (0 ≤ (13 : Int)) = true := rfl
  have h7 : decide (0 ≤ (7 : Int)) = true := rfl
  have h17 : decide (0 ≤ (17 : Int)) = true := rfl
  simp only [Srt.xorNext, h13, h7, h17, cond_true]
  generalize IntKind.u64.wrap (r * 2 ^ min (Int.toNat 13) IntKind.u64.bits) = x1
  generalize IntKind.u64.wrap (((BitVec.ofInt IntKind.u64.bits r ^^^ BitVec.ofInt IntKind.u64.bits x1).toNat : Int)) = x2
  generalize IntKind.u64.wrap (((BitVec.ofInt IntKind.u64.bits x2 ^^^ BitVec.ofInt IntKind.u64.bits (x2.fdiv (2 ^ min (Int.toNat 7) IntKind.u64.bits))).toNat : Int)) = x3
  obtain ⟨q, h1, h2⟩ := xor_u x3 (IntKind.u64.wrap (x3 * 2 ^ min (Int.toNat 17) IntKind.u64.bits))
  exact ⟨q, h1, by rw [h2]⟩
theorem and_u (x m : Nat) (hx : x < 18446744073709551616) (hm : m < 18446744073709551616) :
   ∃ r : Nat, r ≤ m ∧ IntKind.u64.wrap (((BitVec.ofInt IntKind.u64.bits (x : Int) &&& BitVec.ofInt IntKind.u64.bits (m : Int)).toNat : Int)) = (r : Int) := by
  refine ⟨x &&& m, Nat.and_le_right, ?_⟩
  show IntKind.u64.wrap (((BitVec.ofInt 64 (x : Int) &&& BitVec.ofInt 64 (m : Int)).toNat : Int)) = _
  have h := @Nat.and_le_right x m
  have e : (BitVec.ofInt 64 (x : Int) &&& BitVec.ofInt 64 (m : Int)).toNat = x &&& m := by
   simp only [BitVec.ofInt_natCast, BitVec.toNat_and, BitVec.toNat_ofNat]
   rw [Nat.mod_eq_of_lt hx, Nat.mod_eq_of_lt hm]
  rw [e, wrapu64 (by omega) (by omega)]
variable {α : Type} [Inhabited α]
theorem break_tie0 (a b : Nat) (h8 : 8 ≤ b - a) (hs : b < 2305843009213693952) : ∀ (k idx : Nat) (d : Array α) (r : Int), k = a + (b - a) / 4 * 2 + 2 - idx → a ≤ idx → b ≤ d.size → d.size < 2305843009213693952 → ∀ n, k < n →
   ∃ d', iterN (fun x => breakPat_s5 (α := α) x.1 x.2.1 x.2.2.1 x.2.2.2.1 x.2.2.2.2.1 x.2.2.2.2.2.1) n
    (d.toList, ((a : Int), (((b - a : Nat) : Int), (r, (((2 ^ Sort.bitsLen (b - a) : Nat) : Int), ((idx : Int), ())))))) = some (d'.toList, ()) ∧ PermIn a b d d' := by
  have hm1 := two_pow_bitsLen_le (n := b - a) (by omega)
  have hm2 := Nat.two_pow_pos (Sort.bitsLen (b - a))
  have e1 : IntKind.i64.wrap (Int.tdiv ((b - a : Nat) : Int) (4 : Int)) = (((b - a) / 4 : Nat) : Int) := by
   rw [Int.tdiv_eq_ediv_of_nonneg (by omega)]
   rw [wrap64] <;> omega
  have e2 : IntKind.i64.wrap ((((b - a) / 4 : Nat) : Int) * 2) = (((b - a) / 4 * 2 : Nat) : Int) := by rw [wrap64] <;> omega
  have e3 : IntKind.i64.wrap ((a : Int) + (((b - a) / 4 * 2 : Nat) : Int)) = ((a + (b - a) / 4 * 2 : Nat) : Int) := by rw [wrap64] <;> omega
  have e4 : IntKind.i64.wrap (((a + (b - a) / 4 * 2 : Nat) : Int) + 1) = ((a + (b - a) / 4 * 2 + 1 : Nat) : Int) := by rw [wrap64] <;> omega
  have e5 : IntKind.u64.wrap (((2 ^ Sort.bitsLen (b - a) : Nat) : Int) - 1) = ((2 ^ Sort.bitsLen (b - a) - 1 : Nat) : Int) := by rw [wrapu64] <;> omega
  intro k
  induction k with
  | zero =>
   intro idx d r hk hai hb hsz n hn
   obtain ⟨n, rfl⟩ := succ_of hn
   refine ⟨d, iterN_inr ?_, permIn_refl d a b⟩
   have h0 : ¬ (idx : Int) ≤ ((a + (b - a) / 4 * 2 + 1 : Nat) : Int) := by omega
   simp only [Option.bind_some, breakPat_s5, e1, e2, e3, e4, h0, decide_false, cond_false, show ((4 : Int) != 0) = true from rfl, cond_true]
  | succ k ih =>
   intro idx d r hk hai hb hsz n hn
   obtain ⟨n, rfl⟩ := succ_of hn
   have h0 : (idx : Int) ≤ ((a + (b - a) / 4 * 2 + 1 : Nat) : Int) := by omega
   obtain ⟨q, hq, hxn⟩ := xorNext_some r
   obtain ⟨o, ho, hand⟩ := and_u q (2 ^ Sort.bitsLen (b - a) - 1) hq (by omega)
   have e6 : IntKind.i64.wrap (o : Int) = (o : Int) := wrap64 (by omega) (by omega)
   have hib : idx < b := by omega
   obtain ⟨t, ht, hstep⟩ : ∃ t : Nat, t < b - a ∧ breakPat_s5 d.toList (a : Int) ((b - a : Nat) : Int) r ((2 ^ Sort.bitsLen (b - a) : Nat) : Int) (idx : Int) =
     some (.inl ((swp d idx (a + t)).toList, ((a : Int), (((b - a : Nat) : Int), ((q : Int), (((2 ^ Sort.bitsLen (b - a) : Nat) : Int), (((idx + 1 : Nat) : Int), ()))))))) := by
    by_cases h1 : o ≥ b - a
    ·refine ⟨o - (b - a), by omega, ?_⟩
     have h1' : (o : Int) ≥ ((b - a : Nat) : Int) := by omega
     have e7 : IntKind.i64.wrap ((o : Int) - ((b - a : Nat) : Int)) = ((o - (b - a) : Nat) : Int) := by rw [wrap64] <;> omega
     simp (disch := omega) only [Option.bind_some, breakPat_s5, e1, e2, e3, e4, h0, decide_true, cond_true, show ((4 : Int) != 0) = true from rfl, hxn, e5, hand, e6, h1', e7,
      w_add, lk_at, lk_set, Int.toNat_natCast, swp_list, w_succ]
    ·refine ⟨o, by omega, ?_⟩
     have h1' : ¬ (o : Int) ≥ ((b - a : Nat) : Int) := by omega
     simp (disch := omega) only [Option.bind_some, breakPat_s5, e1, e2, e3, e4, h0, decide_true, cond_true, show ((4 : Int) != 0) = true from rfl, hxn, e5, hand, e6, h1', decide_false, cond_false,
      w_add, lk_at, lk_set, Int.toNat_natCast, swp_list, w_succ]
   obtain ⟨d', h2, h3⟩ := ih (idx + 1) (swp d idx (a + t)) (q : Int) (by omega) (by omega) (by rw [swp_size]; omega) (by rw [swp_size]; omega) n (by omega)
   exact ⟨d', (iterN_inl hstep).trans h2, permIn_trans _ _ _ a b (swp_permIn d a b idx (a + t) hai hib (by omega) (by omega) hb) h3⟩
theorem breakPat_tie (a b : Nat) (d : Array α) (hab : a ≤ b) (hb : b ≤ d.size) (hs : d.size < 2305843009213693952) :
   ∃ d', breakPat d.toList (a : Int) (b : Int) = some (d'.toList, ()) ∧ PermIn a b d d' := by
  have e1 : IntKind.i64.wrap ((b : Int) - (a : Int)) = ((b - a : Nat) : Int) := w_sub hab (by omega)
  by_cases h8 : 8 ≤ b - a
  ·have h8' : ((b - a : Nat) : Int) ≥ 8 := by omega
   have e2 : IntKind.i64.wrap (Int.tdiv ((b - a : Nat) : Int) (4 : Int)) = (((b - a) / 4 : Nat) : Int) := by
    rw [Int.tdiv_eq_ediv_of_nonneg (by omega)]
    rw [wrap64] <;> omega
   have e3 : IntKind.i64.wrap ((((b - a) / 4 : Nat) : Int) * 2) = (((b - a) / 4 * 2 : Nat) : Int) := by rw [wrap64] <;> omega
   have e4 : IntKind.i64.wrap ((a : Int) + (((b - a) / 4 * 2 : Nat) : Int)) = ((a + (b - a) / 4 * 2 : Nat) : Int) := by rw [wrap64] <;> omega
   have e5 : IntKind.i64.wrap (((a + (b - a) / 4 * 2 : Nat) : Int) - 1) = ((a + (b - a) / 4 * 2 - 1 : Nat) : Int) := by rw [wrap64] <;> omega
   obtain ⟨d', h1, h2⟩ := break_tie0 a b h8 (by omega) _ (a + (b - a) / 4 * 2 - 1) d (IntKind.u64.wrap ((b - a : Nat) : Int)) rfl (by omega) hb hs fuelN (by have := fuelN_le; omega)
   refine ⟨d', ?_, h2⟩
   simp only [Option.bind_some, breakPat, e1, h8', decide_true, cond_true, nextPow_tie (b - a) (by omega), show ((4 : Int) != 0) = true from rfl, e2, e3, e4, e5, h1]
  ·have h8' : ¬ ((b - a : Nat) : Int) ≥ 8 := by omega
   refine ⟨d, ?_, permIn_refl d a b⟩
   simp only [breakPat, e1, h8', decide_false, cond_false]
variable {less : α → α → Option (Unit × (Bool × Unit))} {lt : α → α → Bool} (hl : ∀ x y, less x y = some ((), (lt x y, ())))
 include hl
theorem order2_tie (d : Array α) (a b s : Nat) (ha : a < d.size) (hb : b < d.size) (hs : s < 1000) :
   Srt.order2 less d.toList (a : Int) (b : Int) (s : Int) = some ((((Sort.order2 lt d a b s).2.2 : Nat) : Int), ((((Sort.order2 lt d a b s).1 : Nat) : Int), ((((Sort.order2 lt d a b s).2.1 : Nat) : Int), ()))) ∧
    (Sort.order2 lt d a b s).2.2 ≤ s + 1 ∧ (Sort.order2 lt d a b s).1 < d.size ∧ (Sort.order2 lt d a b s).2.1 < d.size := by
  have hw := w_succ (j := s) (by omega)
  cases h : lt d[b]! d[a]!
  ·simp (disch := omega) only [Option.bind_some, Srt.order2, lk_at, hl, h, cond_false, Sort.order2, Bool.false_eq_true, if_false]
   exact ⟨trivial, by omega, ha, hb⟩
  ·simp (disch := omega) only [Option.bind_some, Srt.order2, lk_at, hl, h, cond_true, Sort.order2, if_true, hw]
   exact ⟨trivial, by omega, hb, ha⟩
theorem median_tie (d : Array α) (a b c s : Nat) (ha : a < d.size) (hb : b < d.size) (hc : c < d.size) (hs : s < 900) :
   Srt.median less d.toList (a : Int) (b : Int) (c : Int) (s : Int) = some ((((Sort.median lt d a b c s).2 : Nat) : Int), ((((Sort.median lt d a b c s).1 : Nat) : Int), ())) ∧
    (Sort.median lt d a b c s).2 ≤ s + 3 ∧ (Sort.median lt d a b c s).1 < d.size := by
  obtain ⟨h1, h2, h3, h4⟩ := order2_tie hl d a b s ha hb (by omega)
  have e1 : Sort.median lt d a b c s = ((Sort.order2 lt d (Sort.order2 lt d a b s).1 (Sort.order2 lt d (Sort.order2 lt d a b s).2.1 c (Sort.order2 lt d a b s).2.2).1 (Sort.order2 lt d (Sort.order2 lt d a b s).2.1 c (Sort.order2 lt d a b s).2.2).2.2).2.1,
    (Sort.order2 lt d (Sort.order2 lt d a b s).1 (Sort.order2 lt d (Sort.order2 lt d a b s).2.1 c (Sort.order2 lt d a b s).2.2).1 (Sort.order2 lt d (Sort.order2 lt d a b s).2.1 c (Sort.order2 lt d a b s).2.2).2.2).2.2) := rfl
  rw [e1]
  generalize Sort.order2 lt d a b s = r1 at *
  obtain ⟨g1, g2, g3, g4⟩ := order2_tie hl d r1.2.1 c r1.2.2 h4 hc (by omega)
  generalize Sort.order2 lt d r1.2.1 c r1.2.2 = r2 at *
  obtain ⟨k1, k2, k3, k4⟩ := order2_tie hl d r1.1 r2.1 r2.2.2 h3 g3 (by omega)
  generalize Sort.order2 lt d r1.1 r2.1 r2.2.2 = r3 at *
  refine ⟨?_, by simp only; omega, k4⟩
  simp only [Option.bind_some, Srt.median, h1, g1, k1]
theorem medianAdj_tie (d : Array α) (a s : Nat) (h0 : 0 < a) (ha : a + 1 < d.size) (hsz : d.size < 2305843009213693952) (hs : s < 900) :
   Srt.medianAdj less d.toList (a : Int) (s : Int) = some ((((Sort.medianAdjacent lt d a s).2 : Nat) : Int), ((((Sort.medianAdjacent lt d a s).1 : Nat) : Int), ())) ∧
    (Sort.medianAdjacent lt d a s).2 ≤ s + 3 ∧ (Sort.medianAdjacent lt d a s).1 < d.size := by
  obtain ⟨h1, h2, h3⟩ := median_tie hl d (a - 1) a (a + 1) s (by omega) (by omega) (by omega) hs
  refine ⟨?_, h2, h3⟩
  rw [Srt.medianAdj, w_pred' h0 (by omega), w_succ (by omega)]
  simp only [h1, Option.bind_some, Sort.medianAdjacent]
def hintI : Hint → Int
  | .unknown => 0
  | .increasing => 1
  | .decreasing => 2
theorem choosePiv_tie (d : Array α) (a b : Nat) (hab : a ≤ b) (h12 : 12 < b - a) (hb : b ≤ d.size) (hsz : d.size < 2305843009213693952) :
   Srt.choosePiv less d.toList (a : Int) (b : Int) = some ((), ((((Sort.choosePivot lt d a b).1 : Nat) : Int), (hintI (Sort.choosePivot lt d a b).2, ()))) := by
  have e1 : IntKind.i64.wrap ((b : Int) - (a : Int)) = ((b - a : Nat) : Int) := w_sub hab (by omega)
  have e2 : IntKind.i64.wrap (Int.tdiv ((b - a : Nat) : Int) (4 : Int)) = (((b - a) / 4 : Nat) : Int) := by
   rw [Int.tdiv_eq_ediv_of_nonneg (by omega)]
   rw [wrap64] <;> omega
  have m1 : IntKind.i64.wrap ((((b - a) / 4 : Nat) : Int) * 1) = (((b - a) / 4 * 1 : Nat) : Int) := by rw [wrap64] <;> omega
  have m2 : IntKind.i64.wrap ((((b - a) / 4 : Nat) : Int) * 2) = (((b - a) / 4 * 2 : Nat) : Int) := by rw [wrap64] <;> omega
  have m3 : IntKind.i64.wrap ((((b - a) / 4 : Nat) : Int) * 3) = (((b - a) / 4 * 3 : Nat) : Int) := by rw [wrap64] <;> omega
  have a1 : IntKind.i64.wrap ((a : Int) + (((b - a) / 4 * 1 : Nat) : Int)) = ((a + (b - a) / 4 * 1 : Nat) : Int) := by rw [wrap64] <;> omega
  have a2 : IntKind.i64.wrap ((a : Int) + (((b - a) / 4 * 2 : Nat) : Int)) = ((a + (b - a) / 4 * 2 : Nat) : Int) := by rw [wrap64] <;> omega
  have a3 : IntKind.i64.wrap ((a : Int) + (((b - a) / 4 * 3 : Nat) : Int)) = ((a + (b - a) / 4 * 3 : Nat) : Int) := by rw [wrap64] <;> omega
  have h8 : ((b - a : Nat) : Int) ≥ 8 := by omega
  have fin : ∀ r : Nat × Nat, r = (if b - a ≥ 8 then
    if b - a ≥ 50 then
     Sort.median lt d (Sort.medianAdjacent lt d (a + (b - a) / 4 * 1) 0).1 (Sort.medianAdjacent lt d (a + (b - a) / 4 * 2) (Sort.medianAdjacent lt d (a + (b - a) / 4 * 1) 0).2).1
      (Sort.medianAdjacent lt d (a + (b - a) / 4 * 3) (Sort.medianAdjacent lt d (a + (b - a) / 4 * 2) (Sort.medianAdjacent lt d (a + (b - a) / 4 * 1) 0).2).2).1
      (Sort.medianAdjacent lt d (a + (b - a) / 4 * 3) (Sort.medianAdjacent lt d (a + (b - a) / 4 * 2) (Sort.medianAdjacent lt d (a + (b - a) / 4 * 1) 0).2).2).2
    else Sort.median lt d (a + (b - a) / 4 * 1) (a + (b - a) / 4 * 2) (a + (b - a) / 4 * 3) 0
   else (a + (b - a) / 4 * 2, 0)) → Sort.choosePivot lt d a b = (r.1, if r.2 = 0 then .increasing else if r.2 = 12 then .decreasing else .unknown) := fun r hr => by
    subst hr; rfl
  have tail : ∀ r : Nat × Nat, (bif (((r.2 : Nat) : Int) == (0 : Int)) then some ((), (((r.1 : Nat) : Int), ((1 : Int), ())))
     else bif (((r.2 : Nat) : Int) == (12 : Int)) then some ((), (((r.1 : Nat) : Int), ((2 : Int), ())))
     else some ((), (((r.1 : Nat) : Int), ((0 : Int), ())))) = some ((), (((r.1 : Nat) : Int), (hintI (if r.2 = 0 then Hint.increasing else if r.2 = 12 then Hint.decreasing else Hint.unknown), ()))) := fun r => by
   by_cases h0 : r.2 = 0
   ·simp [h0, hintI]
   ·by_cases h12 : r.2 = 12
    ·simp [h12, hintI]
    ·have q1 : (((r.2 : Nat) : Int) == (0 : Int)) = false := by simp; omega
     have q2 : (((r.2 : Nat) : Int) == (12 : Int)) = false := by simp; omega
     simp [h0, h12, hintI, q1, q2]
  by_cases h50 : b - a ≥ 50
  ·have h50' : ((b - a : Nat) : Int) ≥ 50 := by omega
   obtain ⟨p1, p2, p3⟩ := medianAdj_tie hl d (a + (b - a) / 4 * 1) 0 (by omega) (by omega) hsz (by omega)
   generalize hr1 : Sort.medianAdjacent lt d (a + (b - a) / 4 * 1) 0 = r1 at *
   obtain ⟨p4, p5, p6⟩ := medianAdj_tie hl d (a + (b - a) / 4 * 2) r1.2 (by omega) (by omega) hsz (by omega)
   generalize hr2 : Sort.medianAdjacent lt d (a + (b - a) / 4 * 2) r1.2 = r2 at *
   obtain ⟨p7, p8, p9⟩ := medianAdj_tie hl d (a + (b - a) / 4 * 3) r2.2 (by omega) (by omega) hsz (by omega)
   generalize hr3 : Sort.medianAdjacent lt d (a + (b - a) / 4 * 3) r2.2 = r3 at *
   obtain ⟨p10, p11, p12⟩ := median_tie hl d r1.1 r2.1 r3.1 r3.2 p3 p6 p9 (by omega)
   generalize hr4 : Sort.median lt d r1.1 r2.1 r3.1 r3.2 = r4 at *
   rw [fin r4 (by rw [if_pos (by omega), if_pos h50])]
   have p1' : Srt.medianAdj less d.toList ((a + (b - a) / 4 * 1 : Nat) : Int) (0 : Int) = _ := p1
   rw [← tail r4]
   simp only [Option.bind_some, Srt.choosePiv, show ((4 : Int) != 0) = true from rfl, cond_true, e1, e2, m1, m2, m3, a1, a2, a3, h8, h50', decide_true, p1', p4, p7, p10]
  ·have h50' : ¬ ((b - a : Nat) : Int) ≥ 50 := by omega
   obtain ⟨p10, p11, p12⟩ := median_tie hl d (a + (b - a) / 4 * 1) (a + (b - a) / 4 * 2) (a + (b - a) / 4 * 3) 0 (by omega) (by omega) (by omega) (by omega)
   generalize hr4 : Sort.median lt d (a + (b - a) / 4 * 1) (a + (b - a) / 4 * 2) (a + (b - a) / 4 * 3) 0 = r4 at *
   rw [fin r4 (by rw [if_pos (by omega), if_neg h50])]
   have p10' : Srt.median less d.toList ((a + (b - a) / 4 * 1 : Nat) : Int) ((a + (b - a) / 4 * 2 : Nat) : Int) ((a + (b - a) / 4 * 3 : Nat) : Int) (0 : Int) = _ := p10
   rw [← tail r4]
   simp only [Option.bind_some, Srt.choosePiv, show ((4 : Int) != 0) = true from rfl, cond_true, e1, e2, m1, m2, m3, a1, a2, a3, h8, h50', decide_true, decide_false, cond_false, p10']
end Go.Vu.Srt
