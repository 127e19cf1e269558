/- UTF-8: what stands at the front of bytes, plainly; the program reads it so. -/
import Derived.Test.YthjjbjnfckjohaaGreatVtGm9
set_option linter.unusedVariables false
set_option maxRecDepth 100000
namespace Go.Vt.Sg
open Go Go.Vt Go.Vt.Srt

/- - a byte that begins a sequence: the bits that it bears, and the bounds of the further bytes -/
def bd (c : Int) : Option (Int × List (Int × Int)) :=
  if c < 128 then some (c, [])
  else if c < 194 then none
  else if c < 224 then some (c - 192, [(128, 191)])
  else if c < 240 then some (c - 224, [(if c = 224 then 160 else 128, if c = 237 then 159 else 191), (128, 191)])
  else if c ≤ 244 then some (c - 240, [(if c = 240 then 144 else 128, if c = 244 then 143 else 191), (128, 191), (128, 191)])
  else none
/- - how many bytes fit -/
def mt : List (Int × Int) → List Int → Nat
  | (lo, hi) :: bs, x :: xs => if lo ≤ x ∧ x ≤ hi then mt bs xs + 1 else 0
  | _, _ => 0
def vl (r : Int) : Nat → List Int → Int
  | k + 1, x :: xs => vl (r * 64 + x % 64) k xs
  | _, _ => r
/- - the code point at the front, its width, and whether more bytes could make it whole -/
def front : List Int → Int × Nat × Bool
  | [] => (0, 0, false)
  | c :: xs => match bd c with
    | none => (65533, 1, false)
    | some (r, bs) => if mt bs xs < bs.length then (65533, mt bs xs + 1, decide (mt bs xs = xs.length)) else (vl r bs.length xs, bs.length + 1, false)

def Byte (x : Int) : Prop := 0 ≤ x ∧ x < 256
def Bytes (l : List Int) : Prop := ∀ x ∈ l, Byte x

theorem byte_all {p : Int → Bool} (h : ((List.range 256).all fun c => p (c : Int)) = true) (x : Int) (hx : Byte x) : p x = true := by
  obtain ⟨n, rfl⟩ : ∃ n : Nat, x = (n : Int) := ⟨x.toNat, by have := hx.1; omega⟩
  exact List.all_eq_true.1 h n (List.mem_range.2 (by have := hx.2; omega))

def leadV (c : Int) : Int × (Int × (Int × (Int × Unit))) := match bd c with
  | none => (0, (0, (128, (191, ()))))
  | some (r, bs) => (((bs.length + 1 : Nat) : Int), (r, (((bs.head?).getD (128, 191)).1, (((bs.head?).getD (128, 191)).2, ()))))
theorem lead_is (c : Int) (hc : Byte c) : utfLead c = some ((), leadV c) :=
  of_decide_eq_true (byte_all (p := fun c => decide (utfLead c = some ((), leadV c))) (by kernel_rfl) c hc)
theorem bd_ok (c : Int) (hc : Byte c) : (match bd c with | none => True | some (r, bs) => 0 ≤ r ∧ r < 128 ∧ bs.length ≤ 3 ∧ (bs = [] ∨ r < 32) ∧ ∀ y ∈ bs.drop 1, y = (128, 191)) := by
  have h0 := hc.1; have h9 := hc.2
  by_cases h1 : c < 128
  · simp only [bd, if_pos h1]; exact ⟨by omega, by omega, by simp, by simp, by simp⟩
  by_cases h2 : c < 194
  · simp only [bd, if_neg h1, if_pos h2]
  by_cases h3 : c < 224
  · simp only [bd, if_neg h1, if_neg h2, if_pos h3]; exact ⟨by omega, by omega, by simp, .inr (by omega), by simp⟩
  by_cases h4 : c < 240
  · simp only [bd, if_neg h1, if_neg h2, if_neg h3, if_pos h4]; exact ⟨by omega, by omega, by simp, .inr (by omega), by simp⟩
  by_cases h5 : c ≤ 244
  · simp only [bd, if_neg h1, if_neg h2, if_neg h3, if_neg h4, if_pos h5]; exact ⟨by omega, by omega, by simp, .inr (by omega), by simp⟩
  · simp only [bd, if_neg h1, if_neg h2, if_neg h3, if_neg h4, if_neg h5]

theorem and63 (x : Int) (hx : Byte x) : IntKind.u8.wrap (((BitVec.ofInt IntKind.u8.bits x &&& BitVec.ofInt IntKind.u8.bits (63 : Int)).toNat : Int)) = x % 64 :=
  of_decide_eq_true (byte_all (p := fun x => decide (IntKind.u8.wrap (((BitVec.ofInt IntKind.u8.bits x &&& BitVec.ofInt IntKind.u8.bits (63 : Int)).toNat : Int)) = x % 64)) (by kernel_rfl) x hx)
theorem wrap32' {x : Int} (h1 : -2147483648 ≤ x) (h2 : x < 2147483648) : IntKind.i32.wrap x = x := by
  simp only [IntKind.wrap, IntKind.signed, IntKind.bits]
  simp
  omega
theorem or64 {r y : Int} (h0 : 0 ≤ r) (h1 : r < 16777216) (h2 : 0 ≤ y) (h3 : y < 64) : IntKind.i32.wrap (((BitVec.ofInt IntKind.i32.bits (r * 64) ||| BitVec.ofInt IntKind.i32.bits y).toNat : Int)) = r * 64 + y := by
  obtain ⟨a, rfl⟩ : ∃ a : Nat, r = (a : Int) := ⟨r.toNat, by omega⟩
  obtain ⟨b, rfl⟩ : ∃ b : Nat, y = (b : Int) := ⟨y.toNat, by omega⟩
  have e1 : ((a : Int) * 64) = ((a * 64 : Nat) : Int) := by omega
  rw [e1]
  show IntKind.i32.wrap (((BitVec.ofInt 32 ((a * 64 : Nat) : Int) ||| BitVec.ofInt 32 ((b : Nat) : Int)).toNat : Int)) = _
  simp only [BitVec.ofInt_natCast, BitVec.toNat_or, BitVec.toNat_ofNat]
  rw [Nat.mod_eq_of_lt (by omega), Nat.mod_eq_of_lt (by omega)]
  have e2 : a * 64 ||| b = a * 64 + b := by
    have := Nat.two_pow_add_eq_or_of_lt (i := 6) (b := b) (by omega) a
    rw [show (2 : Nat) ^ 6 = 64 from rfl] at this
    rw [Nat.mul_comm, this]
  rw [e2, wrap32' (by omega) (by omega)]
  omega

theorem one_loop (n : Nat) (hn : n ≤ 4) : ∀ (bs : List (Int × Int)) (xs pre : List Int) (r lo hi : Int) (k : Nat), Bytes xs → (∀ p ∈ bs.head?, p = (lo, hi)) → (∀ y ∈ bs.drop 1, y = ((128 : Int), (191 : Int))) → pre.length + bs.length = n → pre.length + xs.length < 4611686018427387904 → 0 ≤ r → (r + 1) * 64 ^ bs.length ≤ 1073741824 → bs.length < k →
    iterN (fun x => utfOne_s7 x.1 x.2.1 x.2.2.1 x.2.2.2.1 x.2.2.2.2.1 x.2.2.2.2.2.1) k (pre ++ xs, (r, ((n : Int), (lo, (hi, (((pre.length : Nat) : Int), ())))))) =
      some (if mt bs xs < bs.length then .inl (65533, (((pre.length + mt bs xs : Nat) : Int), (decide (mt bs xs = xs.length), ()))) else .inr (vl r bs.length xs, ((n : Int), ()))) := by
  intro bs
  induction bs with
  | nil =>
    intro xs pre r lo hi k hx h1 h2 h3 h4 hr0 hr1 hk
    obtain ⟨k, rfl⟩ := succ_of hk
    have hlt : ¬ ((pre.length : Nat) : Int) < (n : Int) := by simp at h3; omega
    refine iterN_inr ?_
    simp only [utfOne_s7, hlt, decide_false, cond_false, Option.bind_some, mt, List.length_nil, Nat.lt_irrefl, if_false, vl]
  | cons p bs ih =>
    intro xs pre r lo hi k hx h1 h2 h3 h4 hr0 hr1 hk
    obtain ⟨k, rfl⟩ := succ_of hk
    have hp : p = (lo, hi) := h1 p (by simp)
    subst hp
    simp only [List.length_cons] at h3 hr1 hk
    have hlt : ((pre.length : Nat) : Int) < (n : Int) := by omega
    cases xs with
    | nil =>
      have he : (((pre.length : Nat) : Int) == ((pre ++ ([] : List Int)).length : Int)) = true := by simp
      refine iterN_inr ?_
      simp only [utfOne_s7, hlt, decide_true, cond_true, Option.bind_some, he, mt, List.length_cons, List.length_nil, Nat.zero_lt_succ, if_true, Nat.add_zero]
    | cons x xs =>
      have hxb := hx x (by simp)
      have he : (((pre.length : Nat) : Int) == ((pre ++ x :: xs).length : Int)) = false := by simp; omega
      have hlk : lk (pre ++ x :: xs) ((pre.length : Nat) : Int) = some x := lk_mid
      have hm : mt ((lo, hi) :: bs) (x :: xs) = if lo ≤ x ∧ x ≤ hi then mt bs xs + 1 else 0 := rfl
      by_cases c1 : x < lo
      · rw [hm, if_neg (show ¬ (lo ≤ x ∧ x ≤ hi) by omega), if_pos (show 0 < ((lo, hi) :: bs).length from Nat.zero_lt_succ _)]
        refine iterN_inr ?_
        simp only [utfOne_s7, hlt, decide_true, cond_true, cond_false, Option.bind_some, he, hlk, c1, Nat.add_zero]
        simp
      · by_cases c2 : x > hi
        · rw [hm, if_neg (show ¬ (lo ≤ x ∧ x ≤ hi) by omega), if_pos (show 0 < ((lo, hi) :: bs).length from Nat.zero_lt_succ _)]
          refine iterN_inr ?_
          simp only [utfOne_s7, hlt, decide_true, decide_false, cond_true, cond_false, Option.bind_some, he, hlk, c1, c2, Nat.add_zero]
          simp
        · rw [hm, if_pos (show lo ≤ x ∧ x ≤ hi by omega)]
          have hy := hxb.1; have hy2 := hxb.2
          have hp64 : 1 ≤ (64 : Int) ^ bs.length := by
            have := Nat.one_le_pow bs.length 64 (by decide)
            exact_mod_cast this
          rw [Int.pow_succ, Int.mul_comm ((64 : Int) ^ bs.length) 64, ← Int.mul_assoc] at hr1
          have hr4 : (r * 64 + x % 64 + 1) * 64 ^ bs.length ≤ (r + 1) * 64 * 64 ^ bs.length := Int.mul_le_mul_of_nonneg_right (by omega) (by omega)
          have hr2 : r * 64 < 1073741824 := by
            have h5 : (r + 1) * 64 * 1 ≤ (r + 1) * 64 * 64 ^ bs.length := Int.mul_le_mul_of_nonneg_left hp64 (by omega)
            omega
          have hr3 : r < 16777216 := by omega
          have e1 : IntKind.i32.wrap (r * 2 ^ (min (6 : Int).toNat IntKind.i32.bits)) = r * 64 := by
            rw [show (2 : Int) ^ (min (6 : Int).toNat IntKind.i32.bits) = 64 by decide]
            exact wrap32' (by omega) (by omega)
          have e2 := and63 x hxb
          have e3 : IntKind.i32.wrap (x % 64) = x % 64 := wrap32' (by omega) (by omega)
          have e4 := or64 hr0 hr3 (y := x % 64) (by omega) (by omega)
          have ew : IntKind.i64.wrap (((pre.length : Nat) : Int) + 1) = (((pre ++ [x]).length : Nat) : Int) := by
            rw [wrap64 (by omega) (by simp only [List.length_cons] at h4; omega)]; simp
          have hs := ih xs (pre ++ [x]) (r * 64 + x % 64) 128 191 k (fun y hy => hx y (by simp [hy])) (fun q hq => h2 q (by
            cases bs with
            | nil => simp at hq
            | cons b bs => simp at hq ⊢; exact .inl hq.symm)) (fun y hy => h2 y (by
            simp only [List.drop_succ_cons, List.drop_zero]; exact List.mem_of_mem_drop hy)) (by simp; omega) (by simp at h4 ⊢; omega) (by omega) (by omega) (by omega)
          rw [← app_mid] at hs
          have hgoal : (if mt bs xs + 1 < bs.length + 1 then (.inl (65533, (((pre.length + (mt bs xs + 1) : Nat) : Int), (decide (mt bs xs + 1 = xs.length + 1), ()))) : (Int × (Int × (Bool × Unit))) ⊕ (Int × (Int × Unit))) else .inr (vl r (bs.length + 1) (x :: xs), ((n : Int), ()))) =
              (if mt bs xs < bs.length then .inl (65533, ((((pre ++ [x]).length + mt bs xs : Nat) : Int), (decide (mt bs xs = xs.length), ()))) else .inr (vl (r * 64 + x % 64) bs.length xs, ((n : Int), ()))) := by
            by_cases c : mt bs xs < bs.length
            · rw [if_pos c, if_pos (by omega)]
              congr 3
              · simp; omega
              · simp
            · rw [if_neg c, if_neg (by omega)]
              rfl
          simp only [List.length_cons]
          rw [hgoal]
          refine (iterN_inl ?_).trans hs
          simp only [utfOne_s7, hlt, decide_true, decide_false, cond_true, cond_false, Option.bind_some, he, hlk, c1, c2, e1, e2, e3, e4, ew, show decide (0 ≤ (6 : Int)) = true from rfl]

end Go.Vt.Sg

namespace Go.Vt.Sg
open Go Go.Vt Go.Vt.Srt

theorem one_is (c : Int) (xs : List Int) (hb : Bytes (c :: xs)) (hl : xs.length < 4611686018427387903) :
    utfOne (c :: xs) = some ((), ((front (c :: xs)).1, ((((front (c :: xs)).2.1 : Nat) : Int), ((front (c :: xs)).2.2, ())))) := by
  have hc := hb c (by simp)
  have hlk : lk (c :: xs) (0 : Int) = some c := rfl
  have hd := bd_ok c hc
  simp only [utfOne, hlk, Option.bind_some, lead_is c hc, leadV, front]
  cases hbd : bd c with
  | none => simp
  | some q =>
    obtain ⟨r, bs⟩ := q
    rw [hbd] at hd
    obtain ⟨d1, d2, d3, d4, d5⟩ := hd
    have hn0 : ((((bs.length + 1 : Nat) : Int)) == (0 : Int)) = false := by simp; omega
    have hpow : (r + 1) * 64 ^ bs.length ≤ 1073741824 := by
      rcases d4 with rfl | d4
      · simp; omega
      · have h1 : (64 : Int) ^ bs.length ≤ 262144 := by
          generalize bs.length = k at d3
          match k, d3 with
          | 0, _ => decide
          | 1, _ => decide
          | 2, _ => decide
          | 3, _ => decide
          | k + 4, h => omega
        have h2 : (r + 1) * 64 ^ bs.length ≤ 32 * 64 ^ bs.length := Int.mul_le_mul_of_nonneg_right (by omega) (Int.le_of_lt (Int.pow_pos (by decide)))
        omega
    have hs := one_loop (bs.length + 1) (by omega) bs xs [c] r ((bs.head?).getD (128, 191)).1 ((bs.head?).getD (128, 191)).2 fuelN (fun x hx => hb x (by simp [hx])) (fun p hp => by
      cases bs with
      | nil => simp at hp
      | cons b bs => simp at hp; subst hp; rfl) d5 (by simp; omega) (by simp; omega) d1 hpow (by have := fuelN_le; omega)
    have e1 : (([c] : List Int).length : Int) = 1 := rfl
    rw [e1] at hs
    simp only [List.singleton_append] at hs
    simp only [hn0, cond_false, Option.bind_some]
    rw [hs]
    by_cases hm : mt bs xs < bs.length
    · simp only [if_pos hm, Option.bind_some]
      simp
      omega
    · simp only [if_neg hm, Option.bind_some]

/- the reference -/
def flat (bs : List (Int × Int)) : List Int := bs.flatMap fun p => [p.1, p.2]
theorem flat_length (bs : List (Int × Int)) : (flat bs).length = 2 * bs.length := by
  induction bs with
  | nil => rfl
  | cons p bs ih => simp only [flat, List.flatMap_cons, List.length_append, List.length_cons, List.length_nil] at ih ⊢; omega
def rowV (c : Int) : List Int × (Bool × Unit) := match bd c with
  | none => ([], (false, ()))
  | some (_, bs) => (flat bs, (true, ()))
theorem row_is (c : Int) (hc : Byte c) : row1 c = some ((), rowV c) :=
  of_decide_eq_true (byte_all (p := fun c => decide (row1 c = some ((), rowV c))) (by kernel_rfl) c hc)

theorem flat_lk (bp : List (Int × Int)) (p : Int × Int) (bs : List (Int × Int)) : lk (flat (bp ++ p :: bs)) ((2 * bp.length : Nat) : Int) = some p.1 ∧ lk (flat (bp ++ p :: bs)) ((2 * bp.length + 1 : Nat) : Int) = some p.2 := by
  have h := flat_length bp
  have e : flat (bp ++ p :: bs) = flat bp ++ p.1 :: p.2 :: flat bs := by simp [flat]
  rw [e]
  constructor
  · exact lk_idx (by rw [List.getElem?_append_right (by omega)]; simp [h])
  · exact lk_idx (by rw [List.getElem?_append_right (by omega)]; simp [h])

theorem at_loop1 (b : List Int) (at' : Nat) (hL : b.length < 4611686018427387903) : ∀ (bs bp : List (Int × Int)) (xs pre : List Int) (k : Nat), b = pre ++ xs → pre.length = at' + 1 + bp.length → bp.length + bs.length ≤ 3 → bs.length < k →
    iterN (fun x => at1_s7 x.1 x.2.1 x.2.2.1 x.2.2.2.1) k (b, ((at' : Int), (flat (bp ++ bs), (((bp.length + 1 : Nat) : Int), ())))) = some (b, ((at' : Int), (flat (bp ++ bs), (((bp.length + 1 + mt bs xs : Nat) : Int), ())))) := by
  intro bs
  induction bs with
  | nil =>
    intro bp xs pre k hb hp h3 hk
    obtain ⟨k, rfl⟩ := succ_of hk
    have hfl := flat_length (bp ++ [])
    have e1 : IntKind.i64.wrap (Int.tdiv ((flat (bp ++ [])).length : Int) (2 : Int)) = (bp.length : Int) := by
      rw [hfl, Int.tdiv_eq_ediv_of_nonneg (by omega)]
      simp only [List.append_nil]
      rw [wrap64] <;> omega
    have h0 : ¬ ((bp.length + 1 : Nat) : Int) ≤ (bp.length : Int) := by omega
    refine iterN_inr ?_
    simp only [at1_s7, show ((2 : Int) != 0) = true from rfl, cond_true, e1, h0, decide_false, cond_false, Option.bind_some, mt, Nat.add_zero]
  | cons p bs ih =>
    intro bp xs pre k hb hp h3 hk
    obtain ⟨k, rfl⟩ := succ_of hk
    simp only [List.length_cons] at h3 hk
    have hfl := flat_length (bp ++ p :: bs)
    have e1 : IntKind.i64.wrap (Int.tdiv ((flat (bp ++ p :: bs)).length : Int) (2 : Int)) = ((bp.length + bs.length + 1 : Nat) : Int) := by
      rw [hfl, Int.tdiv_eq_ediv_of_nonneg (by omega)]
      simp only [List.length_append, List.length_cons]
      rw [wrap64] <;> omega
    have h0 : ((bp.length + 1 : Nat) : Int) ≤ ((bp.length + bs.length + 1 : Nat) : Int) := by omega
    have hlen : b.length = pre.length + xs.length := by rw [hb]; simp
    have e2 : IntKind.i64.wrap ((at' : Int) + ((bp.length + 1 : Nat) : Int)) = ((pre.length : Nat) : Int) := by rw [wrap64] <;> omega
    have e3 : IntKind.i64.wrap (IntKind.i64.wrap ((2 : Int) * ((bp.length + 1 : Nat) : Int)) - (2 : Int)) = ((2 * bp.length : Nat) : Int) := by
      rw [wrap64 (x := (2 : Int) * ((bp.length + 1 : Nat) : Int)) (by omega) (by omega), wrap64] <;> omega
    have e4 : IntKind.i64.wrap (IntKind.i64.wrap ((2 : Int) * ((bp.length + 1 : Nat) : Int)) - (1 : Int)) = ((2 * bp.length + 1 : Nat) : Int) := by
      rw [wrap64 (x := (2 : Int) * ((bp.length + 1 : Nat) : Int)) (by omega) (by omega), wrap64] <;> omega
    obtain ⟨f1, f2⟩ := flat_lk bp p bs
    cases xs with
    | nil =>
      have h5 : ¬ ((pre.length : Nat) : Int) < (b.length : Int) := by simp at hlen; omega
      refine iterN_inr ?_
      simp only [at1_s7, show ((2 : Int) != 0) = true from rfl, cond_true, e1, h0, decide_true, decide_false, cond_false, Option.bind_some, e2, h5, mt, Nat.add_zero]
    | cons x xs =>
      have h5 : ((pre.length : Nat) : Int) < (b.length : Int) := by simp at hlen; omega
      have hlk : lk b ((pre.length : Nat) : Int) = some x := by rw [hb]; exact lk_mid
      obtain ⟨lo, hi⟩ := p
      have hm : mt ((lo, hi) :: bs) (x :: xs) = if lo ≤ x ∧ x ≤ hi then mt bs xs + 1 else 0 := rfl
      by_cases c1 : x ≥ lo
      · by_cases c2 : x ≤ hi
        · rw [hm, if_pos ⟨c1, c2⟩]
          have hs := ih (bp ++ [(lo, hi)]) xs (pre ++ [x]) k (by rw [hb]; simp) (by simp; omega) (by simp; omega) (by omega)
          have e5 : (bp ++ [(lo, hi)]) ++ bs = bp ++ (lo, hi) :: bs := by simp
          rw [e5] at hs
          have e6 : (bp ++ [(lo, hi)]).length + 1 + mt bs xs = bp.length + 1 + (mt bs xs + 1) := by simp; omega
          rw [e6] at hs
          have ew : IntKind.i64.wrap (((bp.length + 1 : Nat) : Int) + 1) = (((bp ++ [(lo, hi)]).length + 1 : Nat) : Int) := by
            rw [wrap64] <;> (try simp) <;> omega
          refine (iterN_inl ?_).trans hs
          simp only [at1_s7, show ((2 : Int) != 0) = true from rfl, cond_true, e1, h0, decide_true, Option.bind_some, e2, h5, hlk, e3, e4, f1, f2, c1, c2, ew]
        · rw [hm, if_neg (fun h => c2 h.2)]
          refine iterN_inr ?_
          simp only [at1_s7, show ((2 : Int) != 0) = true from rfl, cond_true, e1, h0, decide_true, decide_false, cond_false, Option.bind_some, e2, h5, hlk, e3, e4, f1, f2, c1, c2, Nat.add_zero]
      · rw [hm, if_neg (fun h => c1 h.1)]
        refine iterN_inr ?_
        simp only [at1_s7, show ((2 : Int) != 0) = true from rfl, cond_true, e1, h0, decide_true, decide_false, cond_false, Option.bind_some, e2, h5, hlk, e3, f1, c1, Nat.add_zero]

theorem at_loop2 (b : List Int) (at' n : Nat) (hL : b.length < 4611686018427387903) (hb : Bytes b) : ∀ (j : Nat) (xs pre : List Int) (r : Int) (i k : Nat), b = pre ++ xs → pre.length = at' + i → i + j = n → j ≤ xs.length → n ≤ 4 → 0 ≤ r → (r + 1) * 64 ^ j ≤ 1073741824 → j < k →
    iterN (fun x => at1_s30 x.1 x.2.1 x.2.2.1 x.2.2.2.1 x.2.2.2.2.1) k (b, ((at' : Int), ((n : Int), (r, ((i : Int), ()))))) = some ((n : Int), (vl r j xs, ())) := by
  intro j
  induction j with
  | zero =>
    intro xs pre r i k h1 h2 h3 h4 hn h5 h6 hk
    obtain ⟨k, rfl⟩ := succ_of hk
    have h0 : ¬ ((i : Nat) : Int) < (n : Int) := by omega
    refine iterN_inr ?_
    simp only [at1_s30, h0, decide_false, cond_false, Option.bind_some, vl]
  | succ j ih =>
    intro xs pre r i k h1 h2 h3 h4 hn h5 h6 hk
    obtain ⟨k, rfl⟩ := succ_of hk
    have h0 : ((i : Nat) : Int) < (n : Int) := by omega
    cases xs with
    | nil => simp at h4
    | cons x xs =>
      have hlen : b.length = pre.length + xs.length + 1 := by rw [h1]; simp; omega
      have hx := hb x (by rw [h1]; simp)
      have hy := hx.1; have hy2 := hx.2
      have e2 : IntKind.i64.wrap ((at' : Int) + ((i : Nat) : Int)) = ((pre.length : Nat) : Int) := by rw [wrap64] <;> omega
      have hlk : lk b ((pre.length : Nat) : Int) = some x := by rw [h1]; exact lk_mid
      have hp64 : 1 ≤ (64 : Int) ^ j := by
        have := Nat.one_le_pow j 64 (by decide)
        exact_mod_cast this
      rw [Int.pow_succ, Int.mul_comm ((64 : Int) ^ j) 64, ← Int.mul_assoc] at h6
      have hr4 : (r * 64 + x % 64 + 1) * 64 ^ j ≤ (r + 1) * 64 * 64 ^ j := Int.mul_le_mul_of_nonneg_right (by omega) (by omega)
      have h7 : (r + 1) * 64 * 1 ≤ (r + 1) * 64 * 64 ^ j := Int.mul_le_mul_of_nonneg_left hp64 (by omega)
      have e3 : IntKind.i32.wrap (x) = x := wrap32' (by omega) (by omega)
      have e4 : Int.tmod x 64 = x % 64 := Int.tmod_eq_emod_of_nonneg (by omega)
      have e5 : IntKind.i32.wrap (r * 64) = r * 64 := wrap32' (by omega) (by omega)
      have e6 : IntKind.i32.wrap (r * 64 + x % 64) = r * 64 + x % 64 := wrap32' (by omega) (by omega)
      have ew : IntKind.i64.wrap (((i : Nat) : Int) + 1) = ((i + 1 : Nat) : Int) := by rw [wrap64] <;> omega
      have hs := ih xs (pre ++ [x]) (r * 64 + x % 64) (i + 1) k (by rw [h1]; simp) (by simp; omega) (by omega) (by simp at h4; omega) hn (by omega) (by omega) (by omega)
      refine (iterN_inl ?_).trans hs
      simp only [at1_s30, h0, decide_true, cond_true, Option.bind_some, e2, hlk, show ((64 : Int) != 0) = true from rfl, e3, e4, e5, e6, ew]

theorem mt_le : ∀ (bs : List (Int × Int)) (xs : List Int), mt bs xs ≤ bs.length ∧ mt bs xs ≤ xs.length
  | [], xs => by simp [mt]
  | (lo, hi) :: bs, [] => by simp [mt]
  | (lo, hi) :: bs, x :: xs => by
    have h := mt_le bs xs
    simp only [mt]
    split
    · simp; omega
    · simp

theorem bd_val (c : Int) (hc : Byte c) : (match bd c with | none => True | some (r, bs) => (bs.length = 0 → r = c) ∧ (bs.length = 1 → c % 2 ^ (6 - 1) = r) ∧ (bs.length = 2 → c % 2 ^ (6 - 2) = r) ∧ (bs.length = 3 → c % 2 ^ (6 - 3) = r)) := by
  have h := byte_all (p := fun c => match bd c with | none => true | some (r, bs) => (decide (bs.length ≠ 0) || decide (r = c)) && (decide (bs.length ≠ 1) || decide (c % 2 ^ (6 - 1) = r)) && (decide (bs.length ≠ 2) || decide (c % 2 ^ (6 - 2) = r)) && (decide (bs.length ≠ 3) || decide (c % 2 ^ (6 - 3) = r))) (by kernel_rfl) c hc
  cases hbd : bd c with
  | none => trivial
  | some q =>
    rw [hbd] at h
    simp only [Bool.and_eq_true, Bool.or_eq_true, decide_eq_true_eq] at h
    obtain ⟨⟨⟨h1, h2⟩, h3⟩, h4⟩ := h
    exact ⟨fun h => h1.resolve_left (fun g => g h), fun h => h2.resolve_left (fun g => g h), fun h => h3.resolve_left (fun g => g h), fun h => h4.resolve_left (fun g => g h)⟩

theorem at_is (pre : List Int) (c : Int) (xs : List Int) (hb : Bytes (pre ++ c :: xs)) (hl : (pre ++ c :: xs).length < 4611686018427387903) :
    at1 (pre ++ c :: xs) (pre.length : Int) = some ((), ((front (c :: xs)).1, ((((front (c :: xs)).2.1 : Nat) : Int), ((front (c :: xs)).2.2, ())))) := by
  have hc := hb c (by simp)
  have hlk : lk (pre ++ c :: xs) ((pre.length : Nat) : Int) = some c := lk_mid
  have hd := bd_ok c hc
  have hlen : (pre ++ c :: xs).length = pre.length + xs.length + 1 := by simp; omega
  simp only [at1, hlk, Option.bind_some, row_is c hc, rowV, front]
  cases hbd : bd c with
  | none => simp
  | some q =>
    obtain ⟨r, bs⟩ := q
    rw [hbd] at hd
    obtain ⟨d1, d2, d3, d4, d5⟩ := hd
    have hs := at_loop1 (pre ++ c :: xs) pre.length hl bs [] xs (pre ++ [c]) fuelN (by simp) (by simp) (by simpa using d3) (by have := fuelN_le; omega)
    simp only [List.nil_append, List.length_nil, Nat.zero_add] at hs
    have e0 : (((1 : Nat)) : Int) = (1 : Int) := rfl
    rw [e0] at hs
    have hml := mt_le bs xs
    have hfl := flat_length bs
    have e1 : IntKind.i64.wrap (Int.tdiv ((flat bs).length : Int) (2 : Int)) = (bs.length : Int) := by
      rw [hfl, Int.tdiv_eq_ediv_of_nonneg (by omega)]
      rw [wrap64] <;> omega
    have e2 : IntKind.i64.wrap ((pre.length : Int) + ((1 + mt bs xs : Nat) : Int)) = ((pre.length + 1 + mt bs xs : Nat) : Int) := by rw [wrap64] <;> omega
    simp only [Bool.not_true, cond_false, Option.bind_some, hs, show ((2 : Int) != 0) = true from rfl, cond_true, e1]
    by_cases hm : mt bs xs < bs.length
    · have h1 : ((1 + mt bs xs : Nat) : Int) ≤ (bs.length : Int) := by omega
      have h2 : ((((pre.length + 1 + mt bs xs : Nat) : Int)) == ((pre ++ c :: xs).length : Int)) = decide (mt bs xs = xs.length) := by
        rw [hlen]
        by_cases h : mt bs xs = xs.length
        · rw [h]; simp; omega
        · simp [h]; omega
      simp only [h1, decide_true, cond_true, Option.bind_some, e2, h2, if_pos hm]
      rw [show 1 + mt bs xs = mt bs xs + 1 by omega]
    · have h1 : ¬ ((1 + mt bs xs : Nat) : Int) ≤ (bs.length : Int) := by omega
      have hmm : mt bs xs = bs.length := by omega
      simp only [h1, decide_false, cond_false, Option.bind_some, if_neg hm]
      rw [hmm]
      have hxl : bs.length ≤ xs.length := by omega
      have e3 : IntKind.i32.wrap c = c := wrap32' (by have := hc.1; omega) (by have := hc.2; omega)
      have hv := bd_val c hc
      rw [hbd] at hv
      have fin : ∀ m : Nat, bs.length = m → 1 ≤ m → IntKind.i32.wrap ((1 : Int) * 2 ^ (min (IntKind.i64.wrap ((7 : Int) - ((1 + m : Nat) : Int))).toNat IntKind.i32.bits)) = 2 ^ (6 - m) → c % 2 ^ (6 - m) = r →
          (decide (0 ≤ (IntKind.i64.wrap ((7 : Int) - ((1 + m : Nat) : Int))))) = true → ((2 : Int) ^ (6 - m) != 0) = true → 0 < (2 : Int) ^ (6 - m) → (r + 1) * 64 ^ m ≤ 1073741824 →
          (bif (((1 + bs.length : Nat) : Int) == (1 : Int)) then
            (Option.bind (lk (pre ++ c :: xs) ((pre.length : Nat) : Int)) fun x24 => some (.inl ((IntKind.i32.wrap (x24)), ((1 : Int), (false, ()))) : (Int × (Int × (Bool × Unit))) ⊕ (List Int × (Int × (Int × Unit)))))
          else some (.inr (pre ++ c :: xs, (((pre.length : Nat) : Int), (((1 + bs.length : Nat) : Int), ()))))) = some (.inr (pre ++ c :: xs, (((pre.length : Nat) : Int), (((1 + m : Nat) : Int), ())))) ∧
          iterN (fun x => at1_s30 x.1 x.2.1 x.2.2.1 x.2.2.2.1 x.2.2.2.2.1) fuelN (pre ++ c :: xs, (((pre.length : Nat) : Int), (((1 + m : Nat) : Int), ((Int.tmod c (2 ^ (6 - m))), ((1 : Int), ()))))) = some (((1 + m : Nat) : Int), (vl r m xs, ())) := by
        intro m hm h1 h2 h3 h4 h5 h6 h7
        subst hm
        refine ⟨?_, ?_⟩
        · rw [show ((((1 + bs.length : Nat) : Int)) == (1 : Int)) = false by simp; omega]
          rfl
        · have e4 : Int.tmod c (2 ^ (6 - bs.length)) = r := by rw [Int.tmod_eq_emod_of_nonneg hc.1, h3]
          rw [e4]
          exact at_loop2 (pre ++ c :: xs) pre.length (1 + bs.length) hl hb bs.length xs (pre ++ [c]) r 1 fuelN (by simp) (by simp) (by omega) hxl (by omega) d1 h7 (by have := fuelN_le; omega)
      have hpow : bs.length ≠ 0 → ∀ m : Nat, bs.length = m → m ≤ 3 → (r + 1) * 64 ^ m ≤ 1073741824 := fun h0 m hm h3 => by
        have hr : r < 32 := by
          rcases d4 with rfl | d4
          · exact absurd rfl h0
          · exact d4
        have h1 : (64 : Int) ^ m ≤ 262144 := by
          match m, h3 with
          | 0, _ => decide
          | 1, _ => decide
          | 2, _ => decide
          | 3, _ => decide
          | k + 4, h => omega
        have h2 : (r + 1) * 64 ^ m ≤ 32 * 64 ^ m := Int.mul_le_mul_of_nonneg_right (by omega) (Int.le_of_lt (Int.pow_pos (by decide)))
        omega
      rcases (by omega : bs.length = 0 ∨ bs.length = 1 ∨ bs.length = 2 ∨ bs.length = 3) with h | h | h | h
      · have hr : r = c := hv.1 h
        subst hr
        rw [h]
        simp [hlk, e3, vl]
      · obtain ⟨g1, g2⟩ := fin 1 h (by omega) (by decide) (hv.2.1 h) (by decide) (by decide) (by decide) (hpow (by omega) 1 h (by omega))
        rw [g1]
        simp only [Option.bind_some, hlk, e3]
        rw [show (decide (0 ≤ (IntKind.i64.wrap ((7 : Int) - ((1 + 1 : Nat) : Int))))) = true by decide, show IntKind.i32.wrap ((1 : Int) * 2 ^ (min (IntKind.i64.wrap ((7 : Int) - ((1 + 1 : Nat) : Int))).toNat IntKind.i32.bits)) = 2 ^ (6 - 1) by decide]
        simp only [cond_true, show ((2 : Int) ^ (6 - 1) != 0) = true by decide, g2, Option.bind_some, h]
      · obtain ⟨g1, g2⟩ := fin 2 h (by omega) (by decide) (hv.2.2.1 h) (by decide) (by decide) (by decide) (hpow (by omega) 2 h (by omega))
        rw [g1]
        simp only [Option.bind_some, hlk, e3]
        rw [show (decide (0 ≤ (IntKind.i64.wrap ((7 : Int) - ((1 + 2 : Nat) : Int))))) = true by decide, show IntKind.i32.wrap ((1 : Int) * 2 ^ (min (IntKind.i64.wrap ((7 : Int) - ((1 + 2 : Nat) : Int))).toNat IntKind.i32.bits)) = 2 ^ (6 - 2) by decide]
        simp only [cond_true, show ((2 : Int) ^ (6 - 2) != 0) = true by decide, g2, Option.bind_some, h]
      · obtain ⟨g1, g2⟩ := fin 3 h (by omega) (by decide) (hv.2.2.2 h) (by decide) (by decide) (by decide) (hpow (by omega) 3 h (by omega))
        rw [g1]
        simp only [Option.bind_some, hlk, e3]
        rw [show (decide (0 ≤ (IntKind.i64.wrap ((7 : Int) - ((1 + 3 : Nat) : Int))))) = true by decide, show IntKind.i32.wrap ((1 : Int) * 2 ^ (min (IntKind.i64.wrap ((7 : Int) - ((1 + 3 : Nat) : Int))).toNat IntKind.i32.bits)) = 2 ^ (6 - 3) by decide]
        simp only [cond_true, show ((2 : Int) ^ (6 - 3) != 0) = true by decide, g2, Option.bind_some, h]

end Go.Vt.Sg

namespace Go.Vt.Sg
open Go Go.Vt Go.Vt.Srt

abbrev Pt := Int × (Int × Int)
def pts : Nat → List Int → Int → List Pt
  | 0, _, _ => []
  | _ + 1, [], _ => []
  | k + 1, c :: xs, a => ((front (c :: xs)).1, (a, (((front (c :: xs)).2.1 : Nat) : Int))) :: pts k ((c :: xs).drop (front (c :: xs)).2.1) (a + ((front (c :: xs)).2.1 : Nat))
/- - what is read while it is whole, what stays, and where -/
def wr : Nat → List Int → Int → List Pt × (List Int × Int)
  | 0, all, a => ([], (all, a))
  | _ + 1, [], a => ([], ([], a))
  | k + 1, c :: xs, a => if (front (c :: xs)).2.2 then ([], (c :: xs, a)) else
      (((front (c :: xs)).1, (a, (((front (c :: xs)).2.1 : Nat) : Int))) :: (wr k ((c :: xs).drop (front (c :: xs)).2.1) (a + ((front (c :: xs)).2.1 : Nat))).1,
        (wr k ((c :: xs).drop (front (c :: xs)).2.1) (a + ((front (c :: xs)).2.1 : Nat))).2)

theorem front_w (c : Int) (xs : List Int) : 1 ≤ (front (c :: xs)).2.1 ∧ (front (c :: xs)).2.1 ≤ xs.length + 1 ∧ ((front (c :: xs)).2.2 = true → (front (c :: xs)).1 = 65533 ∧ (front (c :: xs)).2.1 = xs.length + 1) := by
  simp only [front]
  cases bd c with
  | none => simp
  | some q =>
    obtain ⟨r, bs⟩ := q
    simp only
    have h := mt_le bs xs
    by_cases hm : mt bs xs < bs.length
    · simp only [if_pos hm, decide_eq_true_eq]
      exact ⟨by omega, by omega, fun h => ⟨trivial, by omega⟩⟩
    · simp only [if_neg hm]
      exact ⟨by omega, by omega, fun h => by cases h⟩

theorem pts_wr : ∀ (k : Nat) (all : List Int) (a : Int), all.length ≤ k → pts k all a = (wr k all a).1 ++ (match (wr k all a).2.1 with | [] => [] | y :: ys => [(65533, ((wr k all a).2.2, ((y :: ys).length : Int)))])
  | 0, all, a, h => by
    have : all = [] := List.eq_nil_of_length_eq_zero (by omega)
    subst this; rfl
  | k + 1, [], a, h => rfl
  | k + 1, c :: xs, a, h => by
    obtain ⟨h1, h2, h3⟩ := front_w c xs
    simp only [List.length_cons] at h
    simp only [pts, wr]
    cases hm : (front (c :: xs)).2.2 with
    | true =>
      obtain ⟨h4, h5⟩ := h3 hm
      simp only [if_true, List.nil_append]
      rw [h4, h5]
      have : (c :: xs).drop (xs.length + 1) = [] := by simp
      rw [this]
      have : ∀ a, pts k [] a = [] := fun a => by cases k <;> rfl
      rw [this]
      simp
    | false =>
      have ih := pts_wr k ((c :: xs).drop (front (c :: xs)).2.1) (a + ((front (c :: xs)).2.1 : Nat)) (by simp; omega)
      simp only [Bool.false_eq_true, if_false, List.cons_append]
      rw [ih]

theorem wr_bound : ∀ (k : Nat) (all : List Int) (a : Int), (wr k all a).1.length + (wr k all a).2.1.length ≤ all.length ∧ a ≤ (wr k all a).2.2 ∧ (wr k all a).2.2 + (wr k all a).2.1.length = a + all.length
  | 0, all, a => by simp [wr]
  | k + 1, [], a => by simp [wr]
  | k + 1, c :: xs, a => by
    obtain ⟨h1, h2, h3⟩ := front_w c xs
    simp only [wr]
    split
    · simp
    · obtain ⟨g1, g2, g3⟩ := wr_bound k ((c :: xs).drop (front (c :: xs)).2.1) (a + ((front (c :: xs)).2.1 : Nat))
      simp only [List.length_drop, List.length_cons] at g1 g2 g3 ⊢
      refine ⟨by omega, by omega, ?_⟩
      rw [g3]; omega

theorem room24 {n : Nat} (h : n ≤ 100000000) : roomOk n 24 = true := by simp [roomOk]; omega
theorem bytes_drop {l : List Int} (h : Bytes l) (n : Nat) : Bytes (l.drop n) := fun x hx => h x (List.mem_of_mem_drop hx)

theorem wr_loop : ∀ (k : Nat) (all : List Int) (l : List Pt) (a : Int) (n : Nat), all.length ≤ k → Bytes all → l.length + all.length ≤ 20000000 → 0 ≤ a → a + all.length ≤ 40000000 → k < n →
    iterN (fun x => utfWrite_s4 x.1 x.2.1 x.2.2.1) n (((), (a, false)), (all, (l, ()))) = some (((), ((wr k all a).2.2, false)), ((wr k all a).2.1, (l ++ (wr k all a).1, ()))) := by
  intro k
  induction k with
  | zero =>
    intro all l a n h1 hb h2 h3 h4 hn
    obtain ⟨n, rfl⟩ := succ_of hn
    have : all = [] := List.eq_nil_of_length_eq_zero (by omega)
    subst this
    refine iterN_inr ?_
    simp [utfWrite_s4, wr]
  | succ k ih =>
    intro all l a n h1 hb h2 h3 h4 hn
    obtain ⟨n, rfl⟩ := succ_of hn
    cases all with
    | nil =>
      refine iterN_inr ?_
      simp [utfWrite_s4, wr]
    | cons c xs =>
      simp only [List.length_cons] at h1 h2 h4
      have h0 : (((c :: xs).length : Nat) : Int) > 0 := by simp
      have ho := one_is c xs hb (by omega)
      obtain ⟨w1, w2, w3⟩ := front_w c xs
      simp only [wr]
      cases hm : (front (c :: xs)).2.2 with
      | true =>
        rw [hm] at ho
        simp only [if_true, List.append_nil]
        refine iterN_inr ?_
        simp only [utfWrite_s4, h0, decide_true, cond_true, Option.bind_some, ho]
      | false =>
        rw [hm] at ho
        simp only [Bool.false_eq_true, if_false]
        have e1 : inB (((front (c :: xs)).2.1 : Nat) : Int) ((c :: xs).length : Int) (c :: xs).length = true := by
          simp only [inB, Bool.and_eq_true, decide_eq_true_eq, List.length_cons]; omega
        have e2 : ((c :: xs).drop (((front (c :: xs)).2.1 : Nat) : Int).toNat).take (((c :: xs).length : Int) - (((front (c :: xs)).2.1 : Nat) : Int)).toNat = (c :: xs).drop (front (c :: xs)).2.1 := by
          rw [Int.toNat_natCast]
          apply List.take_of_length_le
          simp only [List.length_drop, List.length_cons]; omega
        have e3 : IntKind.i64.wrap (a + (((front (c :: xs)).2.1 : Nat) : Int)) = a + ((front (c :: xs)).2.1 : Nat) := wrap64 (by omega) (by omega)
        have hs := ih ((c :: xs).drop (front (c :: xs)).2.1) (l ++ [((front (c :: xs)).1, (a, (((front (c :: xs)).2.1 : Nat) : Int)))]) (a + ((front (c :: xs)).2.1 : Nat)) n (by simp; omega) (bytes_drop hb _) (by simp; omega) (by omega) (by simp; omega) (by omega)
        rw [List.append_assoc, List.singleton_append] at hs
        have hr : roomOk (l.length + [((front (c :: xs)).1, (a, (((front (c :: xs)).2.1 : Nat) : Int)))].length) 24 = true := room24 (by simp; omega)
        refine (iterN_inl ?_).trans hs
        simp only [utfWrite_s4, h0, decide_true, cond_true, cond_false, Option.bind_some, ho, hr, e1, e2, e3]

theorem room1 {n : Nat} (h : n ≤ 200000000) : roomOk n 1 = true := by simp [roomOk]; omega

theorem utfDecode_is (b : List Int) (hb : Bytes b) (hl : b.length ≤ 10000000) : utfDecode b = some ((), (pts b.length b 0, ())) := by
  have hw := wr_loop b.length b [] 0 fuelN (Nat.le_refl _) hb (by simp; omega) (by omega) (by omega) (by have := fuelN_le; omega)
  obtain ⟨g1, g2, g3⟩ := wr_bound b.length b 0
  have hp := pts_wr b.length b 0 (Nat.le_refl _)
  generalize wr b.length b 0 = q at *
  obtain ⟨l, rest, a⟩ := q
  simp only [List.nil_append] at hw
  simp only at g1 g2 g3 hp
  have r1 : roomOk (([] : List Int).length + b.length) 1 = true := room1 (by simp; omega)
  have r2 : roomOk rest.length 1 = true := room1 (by omega)
  simp only [utfDecode, utfNew, Option.bind_some, utfWrite, cond_false, r1, cond_true, List.nil_append, hw, r2]
  cases rest with
  | nil =>
    have r3 : roomOk (l.length + ([] : List Pt).length) 24 = true := room24 (by simp at g1 ⊢; omega)
    simp only [utfClose, cond_false, Option.bind_some, List.length_nil, show ((((0 : Nat) : Int)) == (0 : Int)) = true from rfl, cond_true]
    rw [hp]
    simp at r3
    simp [r3]
  | cons y ys =>
    have h0 : (((((y :: ys).length : Nat) : Int)) == (0 : Int)) = false := by simp; omega
    have r3 : roomOk (l.length + [((65533 : Int), (a, (((y :: ys).length : Nat) : Int)))].length) 24 = true := room24 (by simp at g1 ⊢; omega)
    simp only [utfClose, cond_false, Option.bind_some, h0, r3, cond_true]
    rw [hp]

theorem dec_loop (b : List Int) (hb : Bytes b) (hL : b.length ≤ 10000000) : ∀ (k : Nat) (all pre : List Int) (l : List Pt) (n : Nat), b = pre ++ all → all.length ≤ k → l.length + all.length ≤ 20000000 → k < n →
    ∃ y, iterN (fun x => decode1_s2 x.1 x.2.1 x.2.2.1 x.2.2.2.1) n (b, (false, (l, (((pre.length : Nat) : Int), ())))) = some y ∧ (y = .inl (l ++ pts k all (pre.length : Int), ()) ∨ y = .inr (l ++ pts k all (pre.length : Int), ())) := by
  intro k
  induction k with
  | zero =>
    intro all pre l n hbe h1 h2 hn
    obtain ⟨n, rfl⟩ := succ_of hn
    have : all = [] := List.eq_nil_of_length_eq_zero (by omega)
    subst this
    have h0 : ¬ ((pre.length : Nat) : Int) < (b.length : Int) := by rw [hbe]; simp
    refine ⟨_, iterN_inr ?_, .inr (by simp [pts]; rfl)⟩
    simp only [decode1_s2, h0, decide_false, cond_false, Option.bind_some]
  | succ k ih =>
    intro all pre l n hbe h1 h2 hn
    obtain ⟨n, rfl⟩ := succ_of hn
    cases all with
    | nil =>
      have h0 : ¬ ((pre.length : Nat) : Int) < (b.length : Int) := by rw [hbe]; simp
      refine ⟨_, iterN_inr ?_, .inr (by simp [pts]; rfl)⟩
      simp only [decode1_s2, h0, decide_false, cond_false, Option.bind_some]
    | cons c xs =>
      simp only [List.length_cons] at h1 h2
      have hlen : b.length = pre.length + xs.length + 1 := by rw [hbe]; simp; omega
      have h0 : ((pre.length : Nat) : Int) < (b.length : Int) := by omega
      have ho := at_is pre c xs (by rw [← hbe]; exact hb) (by rw [← hbe]; omega)
      rw [← hbe] at ho
      obtain ⟨w1, w2, w3⟩ := front_w c xs
      have e1 : pre ++ c :: xs = (pre ++ (c :: xs).take (front (c :: xs)).2.1) ++ (c :: xs).drop (front (c :: xs)).2.1 := by rw [List.append_assoc, List.take_append_drop]
      have e2 : (pre ++ (c :: xs).take (front (c :: xs)).2.1).length = pre.length + (front (c :: xs)).2.1 := by simp; omega
      obtain ⟨y, g1, g2⟩ := ih ((c :: xs).drop (front (c :: xs)).2.1) (pre ++ (c :: xs).take (front (c :: xs)).2.1) (l ++ [((front (c :: xs)).1, ((pre.length : Int), (((front (c :: xs)).2.1 : Nat) : Int)))]) n (by rw [hbe, e1]) (by simp; omega) (by simp; omega) (by omega)
      rw [e2] at g1 g2
      have e3 : IntKind.i64.wrap (((pre.length : Nat) : Int) + (((front (c :: xs)).2.1 : Nat) : Int)) = ((pre.length + (front (c :: xs)).2.1 : Nat) : Int) := by rw [wrap64] <;> omega
      have e4 : ((pre.length + (front (c :: xs)).2.1 : Nat) : Int) = (pre.length : Int) + ((front (c :: xs)).2.1 : Nat) := by omega
      rw [List.append_assoc, List.singleton_append, e4] at g2
      have hr : roomOk (l.length + [((front (c :: xs)).1, ((pre.length : Int), (((front (c :: xs)).2.1 : Nat) : Int)))].length) 24 = true := room24 (by simp; omega)
      refine ⟨y, (iterN_inl ?_).trans g1, g2⟩
      simp only [decode1_s2, h0, decide_true, cond_true, cond_false, Option.bind_some, ho, hr, e3]

theorem decode1_is (b : List Int) (hb : Bytes b) (hl : b.length ≤ 10000000) : decode1 b false = some ((), (pts b.length b 0, ())) := by
  obtain ⟨y, h1, h2⟩ := dec_loop b hb hl b.length b [] [] fuelN rfl (Nat.le_refl _) (by simp; omega) (by have := fuelN_le; omega)
  have h1' : iterN (fun x => decode1_s2 x.1 x.2.1 x.2.2.1 x.2.2.2.1) fuelN (b, (false, (([] : List Pt), ((0 : Int), ())))) = some y := h1
  simp only [decode1, h1', Option.bind_some]
  rcases h2 with rfl | rfl <;> rfl

/- - the code points of bytes -/
def runes (b : List Int) : List Int := (pts b.length b 0).map (·.1)
theorem pts_length : ∀ (k : Nat) (b : List Int) (a : Int), (pts k b a).length ≤ b.length
  | 0, b, a => by simp [pts]
  | k + 1, [], a => by simp [pts]
  | k + 1, c :: xs, a => by
    obtain ⟨w1, w2, w3⟩ := front_w c xs
    have := pts_length k ((c :: xs).drop (front (c :: xs)).2.1) (a + ((front (c :: xs)).2.1 : Nat))
    simp only [pts, List.length_cons, List.length_drop] at this ⊢
    omega
theorem runes_length (b : List Int) : (runes b).length ≤ b.length := by simp only [runes, List.length_map]; exact pts_length _ _ _

theorem runes_loop : ∀ (rest pre : List Pt) (g : List Int) (n : Nat), pre.length + rest.length ≤ 20000000 → g.length + rest.length ≤ 20000000 → rest.length < n →
    iterN (fun x => runes1_s3 x.1 x.2.1 x.2.2.1) n (g, (pre ++ rest, (((pre.length : Nat) : Int), ()))) = some (g ++ rest.map (·.1), ()) := by
  intro rest
  induction rest with
  | nil =>
    intro pre g n h1 h2 hn
    obtain ⟨n, rfl⟩ := succ_of hn
    refine iterN_inr ?_
    simp [runes1_s3]
  | cons r rest ih =>
    intro pre g n h1 h2 hn
    simp only [List.length_cons] at h1 h2 hn
    obtain ⟨n, rfl⟩ := succ_of hn
    have hlt : ((pre.length : Nat) : Int) < ((pre ++ r :: rest).length : Int) := lt_mid
    have ew : IntKind.i64.wrap (((pre.length : Nat) : Int) + 1) = (((pre ++ [r]).length : Nat) : Int) := w_mid (by omega)
    have hs := ih (pre ++ [r]) (g ++ [r.1]) n (by simp; omega) (by simp; omega) (by omega)
    rw [show (pre ++ [r]) ++ rest = pre ++ r :: rest by simp, show (g ++ [r.1]) ++ rest.map (·.1) = g ++ (r :: rest).map (·.1) by simp] at hs
    have hr : roomOk (g.length + [r.1].length) 4 = true := by simp [roomOk]; omega
    refine (iterN_inl ?_).trans hs
    simp only [runes1_s3, hlt, decide_true, cond_true, lk_mid, Option.bind_some, hr, ew]

theorem runes1_is (b : List Int) (hb : Bytes b) (hl : b.length ≤ 10000000) : runes1 b = some ((), (runes b, ())) := by
  have hp := pts_length b.length b 0
  have h1 := runes_loop (pts b.length b 0) [] [] fuelN (by simp; omega) (by simp; omega) (by have := fuelN_le; omega)
  have h1' : iterN (fun x => runes1_s3 x.1 x.2.1 x.2.2.1) fuelN (([] : List Int), (pts b.length b 0, ((0 : Int), ()))) = some (runes b, ()) := h1
  simp only [runes1, decode1_is b hb hl, Option.bind_some, h1']

end Go.Vt.Sg

namespace Go.Vt.Sg
open Go Go.Vt Go.Vt.Srt

def vld (r : Int) : Bool := decide (0 ≤ r) && (decide (r ≤ 1114111) && (decide (r < 55296) || decide (r > 57343)))
def encR (r : Int) : List Int :=
  if r < 128 then [r]
  else if r < 2048 then [192 + r / 64, 128 + r % 64]
  else if r < 65536 then [224 + r / 4096, 128 + r / 64 % 64, 128 + r % 64]
  else [240 + r / 262144, 128 + r / 4096 % 64, 128 + r / 64 % 64, 128 + r % 64]
def fix (r : Int) : Int := if vld r then r else 65533
def enc (l : List Int) : List Int := l.flatMap fun r => encR (fix r)

theorem fix_ok (r : Int) : 0 ≤ fix r ∧ fix r ≤ 1114111 := by
  unfold fix vld
  split
  · rename_i h
    simp only [Bool.and_eq_true, decide_eq_true_eq] at h
    exact ⟨h.1, h.2.1⟩
  · exact ⟨by decide, by decide⟩
theorem encR_length (r : Int) : 1 ≤ (encR r).length ∧ (encR r).length ≤ 4 := by
  unfold encR
  split
  · simp
  split
  · simp
  split <;> simp

theorem utfValid_is (r : Int) : utfValid r = some ((), (vld r, ())) := by
  by_cases h1 : 0 ≤ r <;> by_cases h2 : r ≤ 1114111 <;> by_cases h3 : r < 55296 <;> simp [utfValid, vld, h1, h2, h3]
theorem valid1_is (r : Int) : valid1 r = some ((), (vld r, ())) := by
  by_cases h1 : 0 ≤ r <;> by_cases h2 : r < 1114112 <;> by_cases h3 : 55296 ≤ r <;> simp [valid1, vld, h1, h2, h3] <;> (try omega) <;> (by_cases h4 : r < 57344 <;> simp [h4] <;> omega)

theorem u8id {x : Int} (h : Byte x) : IntKind.u8.wrap x = x := by
  have := h.1; have := h.2
  simp only [IntKind.wrap, IntKind.signed, IntKind.bits]
  simp
  omega
def orB (m : Int) (x : Int) : Int := IntKind.u8.wrap (((BitVec.ofInt IntKind.u8.bits m ||| BitVec.ofInt IntKind.u8.bits x).toNat : Int))
theorem or128 (x : Int) (h0 : 0 ≤ x) (h1 : x < 64) : orB 128 x = 128 + x := by
  have := byte_all (p := fun x => decide (64 ≤ x) || decide (orB 128 x = 128 + x)) (by kernel_rfl) x ⟨h0, by omega⟩
  simp only [Bool.or_eq_true, decide_eq_true_eq] at this
  exact this.resolve_left (by omega)
theorem or192 (x : Int) (h0 : 0 ≤ x) (h1 : x < 32) : orB 192 x = 192 + x := by
  have := byte_all (p := fun x => decide (32 ≤ x) || decide (orB 192 x = 192 + x)) (by kernel_rfl) x ⟨h0, by omega⟩
  simp only [Bool.or_eq_true, decide_eq_true_eq] at this
  exact this.resolve_left (by omega)
theorem or224 (x : Int) (h0 : 0 ≤ x) (h1 : x < 16) : orB 224 x = 224 + x := by
  have := byte_all (p := fun x => decide (16 ≤ x) || decide (orB 224 x = 224 + x)) (by kernel_rfl) x ⟨h0, by omega⟩
  simp only [Bool.or_eq_true, decide_eq_true_eq] at this
  exact this.resolve_left (by omega)
theorem or240 (x : Int) (h0 : 0 ≤ x) (h1 : x < 8) : orB 240 x = 240 + x := by
  have := byte_all (p := fun x => decide (8 ≤ x) || decide (orB 240 x = 240 + x)) (by kernel_rfl) x ⟨h0, by omega⟩
  simp only [Bool.or_eq_true, decide_eq_true_eq] at this
  exact this.resolve_left (by omega)
theorem and63' (r : Int) (h0 : 0 ≤ r) (h1 : r < 2147483648) : IntKind.i32.wrap (((BitVec.ofInt IntKind.i32.bits r &&& BitVec.ofInt IntKind.i32.bits (63 : Int)).toNat : Int)) = r % 64 := by
  obtain ⟨a, rfl⟩ : ∃ a : Nat, r = (a : Int) := ⟨r.toNat, by omega⟩
  have e : (BitVec.ofInt 32 ((a : Nat) : Int) &&& BitVec.ofInt 32 ((63 : Nat) : Int)).toNat = a % 64 := by
    simp only [BitVec.ofInt_natCast, BitVec.toNat_and, BitVec.toNat_ofNat]
    rw [Nat.mod_eq_of_lt (show a < 2 ^ 32 by omega), show 63 % 2 ^ 32 = 2 ^ 6 - 1 by decide, Nat.and_two_pow_sub_one_eq_mod]
  show IntKind.i32.wrap (((BitVec.ofInt 32 ((a : Nat) : Int) &&& BitVec.ofInt 32 ((63 : Nat) : Int)).toNat : Int)) = _
  rw [e, wrap32' (by omega) (by omega)]
  omega

theorem p6 : (2 : Int) ^ (min (6 : Int).toNat IntKind.i32.bits) = 64 := by decide
theorem p12 : (2 : Int) ^ (min (12 : Int).toNat IntKind.i32.bits) = 4096 := by decide
theorem p18 : (2 : Int) ^ (min (18 : Int).toNat IntKind.i32.bits) = 262144 := by decide
theorem fdiv_pos {r m : Int} (h0 : 0 ≤ r) (hm : 0 < m) : Int.fdiv r m = r / m := by rw [Int.fdiv_eq_ediv_of_nonneg _ (by omega)]

theorem enc_loop : ∀ (rest pre g : List Int) (n : Nat), pre.length + rest.length ≤ 20000000 → g.length + 4 * rest.length ≤ 100000000 → rest.length < n →
    iterN (fun x => utfEncode_s2 x.1 x.2.1 x.2.2.1 x.2.2.2.1) n (g, (pre ++ rest, (((pre ++ rest).length : Int), (((pre.length : Nat) : Int), ())))) = some (g ++ enc rest, ()) := by
  intro rest
  induction rest with
  | nil =>
    intro pre g n h1 h2 hn
    obtain ⟨n, rfl⟩ := succ_of hn
    refine iterN_inr ?_
    simp [utfEncode_s2, enc]
  | cons r rest ih =>
    intro pre g n h1 h2 hn
    simp only [List.length_cons] at h1 h2 hn
    obtain ⟨n, rfl⟩ := succ_of hn
    have hlt : ((pre.length : Nat) : Int) < ((pre ++ r :: rest).length : Int) := lt_mid
    have ew : IntKind.i64.wrap (((pre.length : Nat) : Int) + 1) = (((pre ++ [r]).length : Nat) : Int) := w_mid (by omega)
    obtain ⟨l1, l2⟩ := encR_length (fix r)
    have hs := ih (pre ++ [r]) (g ++ encR (fix r)) n (by simp; omega) (by simp; omega) (by omega)
    rw [show (pre ++ [r]) ++ rest = pre ++ r :: rest by simp, show (g ++ encR (fix r)) ++ enc rest = g ++ enc (r :: rest) by simp [enc]] at hs
    refine (iterN_inl ?_).trans hs
    obtain ⟨f1, f2⟩ := fix_ok r
    have hv : (bif (!vld r) then (some (g, ((65533 : Int), (pre ++ r :: rest, (((pre ++ r :: rest).length : Int), (((pre.length : Nat) : Int), ()))))) : Option (List Int × (Int × (List Int × (Int × (Int × Unit)))))) else
        some (g, (r, (pre ++ r :: rest, (((pre ++ r :: rest).length : Int), (((pre.length : Nat) : Int), ())))))) = some (g, (fix r, (pre ++ r :: rest, (((pre ++ r :: rest).length : Int), (((pre.length : Nat) : Int), ()))))) := by
      unfold fix
      cases vld r <;> rfl
    have hroom : ∀ l : List Int, l.length ≤ 4 → roomOk (g.length + l.length) 1 = true := fun l h => room1 (by omega)
    simp only [utfEncode_s2, hlt, decide_true, cond_true, lk_mid, Option.bind_some, utfValid_is, hv, ew]
    generalize fix r = q at *
    have c6 := fdiv_pos f1 (m := 64) (by decide)
    have c12 := fdiv_pos f1 (m := 4096) (by decide)
    have c18 := fdiv_pos f1 (m := 262144) (by decide)
    simp only [p6, p12, p18, c6, c12, c18, show decide (0 ≤ (6 : Int)) = true from rfl, show decide (0 ≤ (12 : Int)) = true from rfl, show decide (0 ≤ (18 : Int)) = true from rfl, cond_true]
    have a1 := and63' q f1 (by omega)
    have a2 := and63' (q / 64) (by omega) (by omega)
    have a3 := and63' (q / 4096) (by omega) (by omega)
    have m1 := or128 (q % 64) (by omega) (by omega)
    have m2 := or128 (q / 64 % 64) (by omega) (by omega)
    have m3 := or128 (q / 4096 % 64) (by omega) (by omega)
    simp only [orB] at m1 m2 m3
    simp only [a1, a2, a3, u8id (x := q % 64) ⟨by omega, by omega⟩, u8id (x := q / 64 % 64) ⟨by omega, by omega⟩, u8id (x := q / 4096 % 64) ⟨by omega, by omega⟩, m1, m2, m3]
    unfold encR
    by_cases d1 : q < 128
    · have := u8id (x := q) ⟨f1, by omega⟩
      simp only [d1, decide_true, cond_true, this, hroom [q] (by simp), if_true]
    · by_cases d2 : q < 2048
      · have n1 := or192 (q / 64) (by omega) (by omega)
        simp only [orB] at n1
        have := u8id (x := q / 64) ⟨by omega, by omega⟩
        simp only [d1, d2, decide_true, decide_false, cond_true, cond_false, this, n1, hroom [192 + q / 64, 128 + q % 64] (by simp), if_true, if_false]
      · by_cases d3 : q < 65536
        · have n1 := or224 (q / 4096) (by omega) (by omega)
          simp only [orB] at n1
          have := u8id (x := q / 4096) ⟨by omega, by omega⟩
          simp only [d1, d2, d3, decide_true, decide_false, cond_true, cond_false, this, n1, hroom [224 + q / 4096, 128 + q / 64 % 64, 128 + q % 64] (by simp), if_true, if_false]
        · have n1 := or240 (q / 262144) (by omega) (by omega)
          simp only [orB] at n1
          have := u8id (x := q / 262144) ⟨by omega, by omega⟩
          simp only [d1, d2, d3, decide_false, cond_true, cond_false, this, n1, hroom [240 + q / 262144, 128 + q / 4096 % 64, 128 + q / 64 % 64, 128 + q % 64] (by simp), if_false]

theorem utfEncode_is (l : List Int) (h : l.length ≤ 10000000) : utfEncode l = some ((), (enc l, ())) := by
  have h1 := enc_loop l [] [] fuelN (by simp; omega) (by simp; omega) (by have := fuelN_le; omega)
  have h1' : iterN (fun x => utfEncode_s2 x.1 x.2.1 x.2.2.1 x.2.2.2.1) fuelN (([] : List Int), (l, ((l.length : Int), ((0 : Int), ())))) = some (enc l, ()) := h1
  simp only [utfEncode, h1', Option.bind_some]

theorem put1_is (g : List Int) (r : Int) (hg : g.length ≤ 100000000) : put1 g r = some ((), (g ++ encR (fix r), ())) := by
  obtain ⟨f1, f2⟩ := fix_ok r
  have hv : (bif (!vld r) then (some (g, ((65533 : Int), ())) : Option (List Int × (Int × Unit))) else some (g, (r, ()))) = some (g, (fix r, ())) := by
    unfold fix
    cases vld r <;> rfl
  have hroom : ∀ l : List Int, l.length ≤ 4 → roomOk (g.length + l.length) 1 = true := fun l h => room1 (by omega)
  simp only [put1, valid1_is, Option.bind_some, hv]
  generalize fix r = q at *
  have t1 : Int.tdiv q 64 = q / 64 := Int.tdiv_eq_ediv_of_nonneg f1
  have t2 : Int.tdiv q 4096 = q / 4096 := Int.tdiv_eq_ediv_of_nonneg f1
  have t3 : Int.tdiv q 262144 = q / 262144 := Int.tdiv_eq_ediv_of_nonneg f1
  have k1 : IntKind.i32.wrap (q / 64) = q / 64 := wrap32' (by omega) (by omega)
  have k2 : IntKind.i32.wrap (q / 4096) = q / 4096 := wrap32' (by omega) (by omega)
  have k3 : IntKind.i32.wrap (q / 262144) = q / 262144 := wrap32' (by omega) (by omega)
  have e1 : Int.tmod q 64 = q % 64 := Int.tmod_eq_emod_of_nonneg f1
  have e2 : Int.tmod (q / 64) 64 = q / 64 % 64 := Int.tmod_eq_emod_of_nonneg (by omega)
  have e3 : Int.tmod (q / 4096) 64 = q / 4096 % 64 := Int.tmod_eq_emod_of_nonneg (by omega)
  have w1 : IntKind.i32.wrap (128 + q % 64) = 128 + q % 64 := wrap32' (by omega) (by omega)
  have w2 : IntKind.i32.wrap (128 + q / 64 % 64) = 128 + q / 64 % 64 := wrap32' (by omega) (by omega)
  have w3 : IntKind.i32.wrap (128 + q / 4096 % 64) = 128 + q / 4096 % 64 := wrap32' (by omega) (by omega)
  have U1 := u8id (x := 128 + q % 64) ⟨by omega, by omega⟩
  have U2 := u8id (x := 128 + q / 64 % 64) ⟨by omega, by omega⟩
  have U3 := u8id (x := 128 + q / 4096 % 64) ⟨by omega, by omega⟩
  have z1 : ((64 : Int) != 0) = true := rfl
  have z2 : ((4096 : Int) != 0) = true := rfl
  have z3 : ((262144 : Int) != 0) = true := rfl
  unfold encR
  by_cases d1 : q < 128
  · have := u8id (x := q) ⟨f1, by omega⟩
    simp only [d1, decide_true, cond_true, this, hroom [q] (by simp), if_true, Option.bind_some]
  · by_cases d2 : q < 2048
    · have n1 : IntKind.i32.wrap (192 + q / 64) = 192 + q / 64 := wrap32' (by omega) (by omega)
      have := u8id (x := 192 + q / 64) ⟨by omega, by omega⟩
      simp only [t1, k1, e1, w1, U1, z1, z2, z3, d1, d2, decide_true, decide_false, cond_true, cond_false, this, n1, hroom [192 + q / 64, 128 + q % 64] (by simp), if_true, if_false, Option.bind_some]
    · by_cases d3 : q < 65536
      · have n1 : IntKind.i32.wrap (224 + q / 4096) = 224 + q / 4096 := wrap32' (by omega) (by omega)
        have := u8id (x := 224 + q / 4096) ⟨by omega, by omega⟩
        simp only [t1, t2, k1, k2, e1, e2, w1, w2, U1, U2, z1, z2, z3, d1, d2, d3, decide_true, decide_false, cond_true, cond_false, this, n1, hroom [224 + q / 4096, 128 + q / 64 % 64, 128 + q % 64] (by simp), if_true, if_false, Option.bind_some]
      · have n1 : IntKind.i32.wrap (240 + q / 262144) = 240 + q / 262144 := wrap32' (by omega) (by omega)
        have := u8id (x := 240 + q / 262144) ⟨by omega, by omega⟩
        simp only [t1, t2, t3, k1, k2, k3, e1, e2, e3, w1, w2, w3, U1, U2, U3, z1, z2, z3, d1, d2, d3, decide_false, cond_true, cond_false, this, n1, hroom [240 + q / 262144, 128 + q / 4096 % 64, 128 + q / 64 % 64, 128 + q % 64] (by simp), if_false, Option.bind_some]

theorem enc1_loop : ∀ (rest pre g : List Int) (n : Nat), pre.length + rest.length ≤ 20000000 → g.length + 4 * rest.length ≤ 100000000 → rest.length < n →
    iterN (fun x => encode1_s2 x.1 x.2.1 x.2.2.1) n (pre ++ rest, (g, (((pre.length : Nat) : Int), ()))) = some (g ++ enc rest, ()) := by
  intro rest
  induction rest with
  | nil =>
    intro pre g n h1 h2 hn
    obtain ⟨n, rfl⟩ := succ_of hn
    refine iterN_inr ?_
    simp [encode1_s2, enc]
  | cons r rest ih =>
    intro pre g n h1 h2 hn
    simp only [List.length_cons] at h1 h2 hn
    obtain ⟨n, rfl⟩ := succ_of hn
    have hlt : ((pre.length : Nat) : Int) < ((pre ++ r :: rest).length : Int) := lt_mid
    have ew : IntKind.i64.wrap (((pre.length : Nat) : Int) + 1) = (((pre ++ [r]).length : Nat) : Int) := w_mid (by omega)
    obtain ⟨l1, l2⟩ := encR_length (fix r)
    have hs := ih (pre ++ [r]) (g ++ encR (fix r)) n (by simp; omega) (by simp; omega) (by omega)
    rw [show (pre ++ [r]) ++ rest = pre ++ r :: rest by simp, show (g ++ encR (fix r)) ++ enc rest = g ++ enc (r :: rest) by simp [enc]] at hs
    refine (iterN_inl ?_).trans hs
    simp only [encode1_s2, hlt, decide_true, cond_true, lk_mid, Option.bind_some, put1_is g r (by omega), ew]

theorem encode1_is (l : List Int) (h : l.length ≤ 10000000) : encode1 l = some ((), (enc l, ())) := by
  have h1 := enc1_loop l [] [] fuelN (by simp; omega) (by simp; omega) (by have := fuelN_le; omega)
  have h1' : iterN (fun x => encode1_s2 x.1 x.2.1 x.2.2.1) fuelN (l, (([] : List Int), ((0 : Int), ()))) = some (enc l, ()) := h1
  simp only [encode1, h1', Option.bind_some]

end Go.Vt.Sg
