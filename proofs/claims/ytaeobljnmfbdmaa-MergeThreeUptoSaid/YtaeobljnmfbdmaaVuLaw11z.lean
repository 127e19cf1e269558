/- Value semantics, part 16a: so many zero values. -/
import Derived.Test.YtaeobljnmfbdmaaVuLaw11
set_option linter.unusedVariables false
namespace Go.Vu
open Go
variable {P : Program} {tb : Tab} {R : Type} {F0 : Bs} {M F : Nat → Prop} {W0 w w' : World} {ρ : RK → Option RI} {s : St} {a : Act} {m : Nat → Nat → Option Value} {id : Nat}
theorem appZ_run {t t' el : TypeId} {ty : TypeId} {inf : TypeInfo} {z : Value} {k : IntKind} (hu : P.underlying t = some (.slice el)) (hu' : P.underlying t' = some (.int k)) (hi : P.info? el = some inf) (hz : inf.zero = some z)
  (hzs : z.cells.size = inf.size) (hby : 0 < inf.bytes) (hs0 : 0 < inf.size) {n : Int} (hn : 0 ≤ n) (h0 : Int.toNat n ≠ 0) (hroom : Int.toNat n * inf.bytes ≤ 140737488355328) :
  ∃ cap, Int.toNat n ≤ cap ∧ (Builtin.append_ #[t, t'] ty #[.slice none 0 0, .int .i64 n]).run P w =
   .ok (.slice (some (adr (w.heap.size, 0))) (Int.toNat n) cap) (w.drew.alloc (.cells ((if Int.toNat n * inf.size = 0 then #[] else Builtin.zeroCells z.cells (Int.toNat n)) ++ Builtin.zeroCells z.cells (cap - Int.toNat n)) el)) := by
 have hneed : Int.toNat n ≤ 140737488355328 := Nat.le_trans (Nat.le_mul_of_pos_right _ hby) hroom
 have hw : IntKind.i64.wrap n = n := wrap_small hn (by omega)
 have hb48 : ¬ (n * (inf.bytes : Int) > 2 ^ 48) := by
  have h6 : ((Int.toNat n * inf.bytes : Nat) : Int) = n * (inf.bytes : Int) := by rw [Int.natCast_mul, Int.toNat_of_nonneg hn]
  have : ((2 : Int) ^ 48) = 281474976710656 := by decide
  rw [this]; omega
 have hg := growslice_fits (need := Int.toNat n) (old := 0) (bytes := inf.bytes) (by omega) hroom
 have h48' : ¬ (281474976710656 < Builtin.nextslicecap (Int.toNat n) 0 * inf.bytes) := by omega
 have hb48' : ¬ (281474976710656 < n * (inf.bytes : Int)) := by
  have : ((2 : Int) ^ 48) = 281474976710656 := by decide
  rw [this] at hb48; omega
 have hneg : ¬ (n < 0) := by omega
 have hfit : ¬ (n.toNat ≤ 0) := by omega
 have h63 : ¬ (9223372036854775807 < max n 0) := by omega
 refine ⟨grownCap w (Int.toNat n) 0 el, by simp only [grownCap, Question.cut]; omega, ?_⟩
 have hfc : ∀ w, (Builtin.firstCells inf.size 0 (.slice none 0 0)).run P w = .ok #[] w := fun w => by simp [Builtin.firstCells]
 have hm : ¬ (n.toNat * inf.size = 0) := by
  intro e; rcases Nat.mul_eq_zero.1 e with e | e <;> omega
 have hs1 : ¬ inf.size = 0 := by omega
 simp [Builtin.append_, run_underlying hu, run_underlying hu', sizeOf, typeInfo, zeroValue, hi, hz, hw, hneg, hb48', h48', Question.forced, newRow, grownCap, adr, asInt, asIntOf, hm, hfc, h63]
 omega
theorem zeroCells_get {z : Array Value} {n : Nat} {i j : Nat} (hi : i < n) (hj : j < z.size) : (Builtin.zeroCells z n)[i * z.size + j]? = z[j]? := by
 have hij : i * z.size + j < n * z.size := by
  have : (i + 1) * z.size ≤ n * z.size := Nat.mul_le_mul_right _ hi
  rw [Nat.add_mul] at this; omega
 have hmod : (i * z.size + j) % z.size = j := by
  rw [Nat.mul_comm, Nat.mul_add_mod]; exact Nat.mod_eq_of_lt hj
 simp only [Builtin.zeroCells, Array.getElem?_map, Array.getElem?_range, hij, if_true, Option.map_some, hmod]
 simp [hj]
theorem appZ_law (hT : TabOk P tb) (h : RelAt F0 M W0 F ρ s a w) (hf : ol s.objs id = none) {ts : Array TypeId} {ty : Nat} {args : Array Operand} {e : Eff R} (hint : isIntT tb ts.toList = true) (he : opAppZ tb ts args id s = some e) :
  Done P F0 M W0 a w id e (Builtin.append_ ts ty (args.map a.eval)) := by
 unfold opAppZ at he
 split at he
 ·rename_i t t' u n hts hargs
  have hts' : ts = #[t, t'] := by apply Array.ext'; simpa using hts
  subst hts'
  obtain ⟨vx, xs, hv, hx, hx1, vy, xs', hv', hy, hy1, hv''⟩ := evs_law h hargs
  subst hv''
  subst hv'
  have hargs' : args.map a.eval = #[vx, vy] := by apply Array.ext'; rw [Array.toList_map, hv]
  rw [hargs']
  have hvx : vx = .slice none 0 0 := by have := hx.2; simpa [Rep] using this
  have hvy : vy = .int .i64 n := by have := hy.2; simpa [Rep] using this
  subst hvx hvy
  have hu' : ∃ k, P.underlying t' = some (.int k) := by
   simp only [isIntT] at hint
   split at hint
   ·rename_i i hi
    split at hint
    ·rename_i k hk
     have := (hT t' i hi).und
     rw [hk] at this
     exact ⟨k, this⟩
    ·cases hint
   ·cases hint
  obtain ⟨k, hu'⟩ := hu'
  split at he
  ·rename_i e' hel
   split at he
   ·rename_i hc
    simp only [Bool.and_eq_true, beq_iff_eq, decide_eq_true_eq] at hc
    obtain ⟨⟨⟨hby, hep⟩, hesz⟩, hs0⟩ := hc
    cases he
    obtain ⟨el, inf, h1, h2, h3, h4, h5⟩ := elemOf_law hT hel
    obtain ⟨inf', i1, i2, i3, i4⟩ := h2.info
    rw [h3] at i1; cases i1
    obtain ⟨z, hz, hz'⟩ := i4 (pure_notAny hep)
    have hr := (hz' F (mem w) ρ).cells
    have hzl := Rep.length _ _ _ hr
    simp only [Array.length_toList] at hzl
    have hzl' : z.cells.size = inf.size := by omega
    have hby' : 0 < inf.bytes := by omega
    intro v hv
    simp only [Eff.new, Cnd.map, Cnd.test] at hv
    cases hk : (decide (0 ≤ n) && roomOk (Int.toNat n) e'.bys) with
    | false => rw [hk] at hv; simp at hv
    | true =>
     rw [hk] at hv
     obtain rfl := Option.some.inj hv
     simp only [roomOk, Bool.and_eq_true, decide_eq_true_eq] at hk
     obtain ⟨hn, hroom⟩ := hk
     by_cases h0 : Int.toNat n = 0
     ·have hrun : (Builtin.append_ #[t, t'] ty #[.slice none 0 0, .int .i64 n]).run P w = .ok (.slice none 0 0) w := by
       have hn0 : n = 0 := by
        have h0' : (Int.toNat n : Nat) = 0 := h0
        have hn' : (0 : Int) ≤ n := hn
        exact Int.le_antisymm (Int.toNat_eq_zero.1 h0') hn'
       subst hn0
       have hw : IntKind.i64.wrap 0 = 0 := by decide
       simp [Builtin.append_, run_underlying h1, run_underlying hu', sizeOf, typeInfo, zeroValue, h3, hz, hw, asInt, asIntOf]
      have hrel := empty_law h hf (Ty.hold_of_pure _ hep) none
      have hnil : List.replicate (Int.toNat n) e'.zero = [] := by rw [h0]; rfl
      rw [← hnil] at hrel
      exact ⟨_, w, F, _, hrun, fun d => RelAt.put hrel d ⟨.ow id, ()⟩ _ (RepV.of (t := .ow id) ⟨rfl, _, ext_same, rfl⟩)⟩
     ·obtain ⟨cap, g1, g2⟩ := appZ_run (P := P) (w := w) (ty := ty) h1 hu' h3 hz hzl' hby' (by omega) hn h0 (by rw [h5]; exact hroom)
      have hd : RelAt F0 M W0 F ρ s a w.drew := h.grow (Kept.drew _ _ _)
      have hm : ¬ (n.toNat * inf.size = 0) := by
       intro e; rcases Nat.mul_eq_zero.1 e with e | e <;> omega
      rw [if_neg hm] at g2
      have hnew := new_law hd hf (t := e'.ty) (xs := List.replicate (Int.toNat n) e'.zero) (cells := Builtin.zeroCells z.cells (Int.toNat n) ++ Builtin.zeroCells z.cells (cap - Int.toNat n)) (el := el) (c := cap) (Ty.hold_of_pure _ hep) (by simpa using g1) (by
        rw [Array.size_append, size_zeroCells, size_zeroCells, hzl', hesz, ← h4, Nat.mul_sub_right_distrib]
        have : Int.toNat n * inf.size ≤ cap * inf.size := Nat.mul_le_mul_right _ g1
        omega) (fun i x hi => by
        rw [List.getElem?_replicate] at hi
        split at hi
        ·rename_i hin
         cases hi
         refine ⟨z.cells.toList, fun j v hj => ?_, hr⟩
         have hjl : j < z.cells.size := by
          rcases Nat.lt_or_ge j z.cells.size with h6 | h6
          ·exact h6
          ·simp [Array.getElem?_eq_none h6] at hj
         have hlt : i * z.cells.size + j < (Builtin.zeroCells z.cells (Int.toNat n)).size := by
          rw [size_zeroCells]
          have : (i + 1) * z.cells.size ≤ n.toNat * z.cells.size := Nat.mul_le_mul_right _ hin
          rw [Nat.add_mul] at this; omega
         rw [show e'.ty.size = z.cells.size by omega, Array.getElem?_append_left hlt, zeroCells_get hin hjl]
         simpa using hj
        ·cases hi)
      refine ⟨_, _, F, _, g2, fun d => RelAt.put hnew d ⟨.ow id, ()⟩ _ (RepV.of (t := .ow id) ⟨rfl, _, ext_same, ?_⟩)⟩
      simp only [RI.val, List.length_replicate]
      rfl
   ·cases he
  ·cases he
 ·cases he
theorem app_law (hT : TabOk P tb) (h : RelAt F0 M W0 F ρ s a w) (hf : ol s.objs id = none) {ts : Array TypeId} {ty : Nat} {args : Array Operand} {e : Eff R} (he : opApp tb ts args id s = some e) :
  Done P F0 M W0 a w id e (Builtin.append_ ts ty (args.map a.eval)) := by
 unfold opApp at he
 split at he
 ·rename_i hi; exact appZ_law hT h hf hi he
 ·exact append_law hT h hf he
theorem ou_same : ∀ (l : List (Nat × ObS)) (r : Nat) (x : ObS), ol l r = some x → ou l r x = l
 | [], _, _, h => by cases h
 | (k, y) :: l, r, x, h => by
  simp only [ol] at h
  simp only [ou]
  by_cases e : k = r
  ·subst e
   simp only [Nat.beq_refl, cond_true, Option.some.injEq] at h ⊢
   rw [h]
  ·simp only [beq_false e, cond_false] at h ⊢
   rw [ou_same l r x h]
theorem set_back {s : St} {r : Nat} {c : Cont} (h : s.cont r = some c) : (s.setObj r .dead).setObj r (.live c) = s := by
 rw [set_set]
 cases s
 simp only [St.setObj]
 congr 1
 exact ou_same _ _ _ (St.cont_iff.1 h)
end Go.Vu
