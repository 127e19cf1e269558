/- Value semantics, part 25: a body of code, as the machine carries it out. -/
import Derived.Test.YthjjbjnfckjohaaGreatVuLaw18
set_option linter.unusedVariables false
namespace Go.Vu
open Go
variable {P : Program} {tb : Tab} {Γ : Nat → List Ctr} {F0 : Bs} {M F F' : Nat → Prop} {W0 w w' : World} {ρ ρ' : RK → Option RI} {s s' : St} {a : Act}
def EK.ex : EK → Exit
 | .normal => .normal
 | .exit n => .exit n
 | .ret => .ret
theorem outPack_law {R : Type} {n : Nat} {e : EK} {K : EK → St → Option R} {r : R} (h : RelAt F0 M W0 F ρ s a w) : ∀ (l : List (EK × Tpl)) {y : Outs l}, outPack n s e l = some y → outK n K l y = some r →
  ∃ st F' ρ', K e st = some r ∧ RelAt F0 M W0 F' ρ' st a w
 | [], y, _, _ => y.elim
 | [p], y, h1, h2 => by
  simp only [outPack] at h1
  split at h1
  ·rename_i he
   subst he
   obtain ⟨F', ρ', h3⟩ := pack_law h h1
   exact ⟨_, F', ρ', h2, h3⟩
  ·cases h1
 | p :: q :: l, y, h1, h2 => by
  simp only [outPack] at h1
  split at h1
  ·rename_i he
   subst he
   cases hp : pack n s p.2 with
   | none => rw [hp] at h1; cases h1
   | some x =>
    rw [hp] at h1
    simp only [Option.map_some, Option.some.injEq] at h1
    subst h1
    obtain ⟨F', ρ', h3⟩ := pack_law h hp
    exact ⟨_, F', ρ', h2, h3⟩
  ·cases hp : outPack n s e (q :: l) with
   | none => rw [hp] at h1; cases h1
   | some x =>
    rw [hp] at h1
    simp only [Option.map_some, Option.some.injEq] at h1
    subst h1
    exact outPack_law h (q :: l) hp h2
theorem least {p : Nat → Prop} : ∀ (n : Nat), p n → ∃ k, p k ∧ ∀ m, p m → k ≤ m := by
 intro n
 induction n using Nat.strongRecOn with
 | _ n ih =>
  intro h
  by_cases hh : ∃ m, m < n ∧ p m
  ·obtain ⟨m, h1, h2⟩ := hh; exact ih m h1 h2
  ·refine ⟨n, h, fun m hm => ?_⟩
   rcases Nat.lt_or_ge m n with h1 | h1
   ·exact absurd ⟨m, h1, hm⟩ hh
   ·exact h1
open Classical in
theorem wp_loop_down {c : Code} {Q : Exit → Act → World → Prop} (J : Nat → Act → World → Prop) (n : Nat) (h0 : J n a w) (round : ∀ k a w, J k a w → c.wp P (Exit.then (fun a' w' => ∃ j, j < k ∧ J j a' w') Q) a w) :
  (Code.loop c).wp P Q a w := by
 have hl : ∀ a w, (∃ k, J k a w) → ∃ k, J k a w ∧ ∀ m, J m a w → k ≤ m := fun a w ⟨k, hk⟩ => least (p := fun k => J k a w) k hk
 let μ : Act → World → Nat := fun a w => if hh : ∃ k, J k a w then Classical.choose (hl a w hh) else 0
 have hμ : ∀ a w, (∃ k, J k a w) → J (μ a w) a w ∧ ∀ m, J m a w → μ a w ≤ m := fun a w hh => by
  have := Classical.choose_spec (hl a w hh)
  simp only [μ, dif_pos hh]
  exact this
 refine wp_loop (fun a w => ∃ k, J k a w) μ ⟨n, h0⟩ fun a w hJ => ?_
 refine Code.wp_mono (fun e a' w' q => ?_) (round (μ a w) a w (hμ a w hJ).1)
 cases e <;> try exact q
 obtain ⟨j, hj, hJ'⟩ := q
 exact ⟨⟨j, hJ'⟩, Nat.lt_of_le_of_lt ((hμ a' w' ⟨j, hJ'⟩).2 j hJ') hj⟩
def Keeps (T : Act → Prop) : Code → Prop
 | .region _ ops _ => KeepsL T ops.toList
 | .seq a b => Keeps T a ∧ Keeps T b
 | .cond _ a b => Keeps T a ∧ Keeps T b
 | .block _ c => Keeps T c
 | .loop c => Keeps T c
 | _ => True
theorem sem_law (hT : TabOk P tb) (hΓ : CtrsOk P Γ) (hm : P.follows .mixedOrders = true) {H : Nat → Option LH} {fuel nn : Nat} {T : Act → Prop} : ∀ (c : Code), Keeps T c → ∀ {R : Type} {s : St} {K : EK → St → Option R} {r : R}, sem tb Γ H fuel nn c s K = some r →
  ∀ {F : Nat → Prop} {ρ : RK → Option RI} {a : Act} {w : World}, RelAt F0 M W0 F ρ s a w → T a → ∀ {Q : Exit → Act → World → Prop}, (∀ e s' F' ρ' a' w', K e s' = some r → RelAt F0 M W0 F' ρ' s' a' w' → T a' → Q e.ex a' w') → c.wp P Q a w := by
 intro c
 induction c with
 | skip =>
  intro hk R s K r hs F ρ a w h ht Q hQ
  simp only [sem] at hs
  exact wp_skip (hQ .normal s F ρ a w hs h ht)
 | region id ops draw =>
  intro hk R s K r hs F ρ a w h ht Q hQ
  exact region_law hT hΓ hm h hs hk ht fun F' ρ' s' a' w' h1 h2 => hQ .normal s' F' ρ' a' w' h1 h2
 | seq x y ihx ihy =>
  intro hk R s K r hs F ρ a w h ht Q hQ
  simp only [sem] at hs
  split at hs
  ·rename_i lh hlh
   split at hs
   ·cases hs
   ·rename_i y' hy'
    refine wp_seq (ihx hk.1 hy' h ht fun e s' F' ρ' a' w' h1 h2 ht2 => ?_)
    obtain ⟨st, F3, ρ3, h5, h6⟩ := outPack_law h2 lh.exits h1 hs
    cases e with
    | normal => exact ihy hk.2 h5 h6 ht2 hQ
    | exit n => exact hQ (.exit n) st F3 ρ3 a' w' h5 h6 ht2
    | ret => exact hQ .ret st F3 ρ3 a' w' h5 h6 ht2
  ·refine wp_seq (ihx hk.1 hs h ht fun e s' F' ρ' a' w' h1 h2 ht2 => ?_)
   cases e with
   | normal => exact ihy hk.2 h1 h2 ht2 hQ
   | exit n => exact hQ (.exit n) s' F' ρ' a' w' h1 h2 ht2
   | ret => exact hQ .ret s' F' ρ' a' w' h1 h2 ht2
 | cond c x y ihx ihy =>
  intro hk R s K r hs F ρ a w h ht Q hQ
  simp only [sem] at hs
  split at hs
  ·rename_i v hv
   have he := evBool h hv
   cases v with
   | true => exact wp_cond he (ihx hk.1 hs h ht hQ)
   | false => exact wp_cond he (ihy hk.2 hs h ht hQ)
  ·cases hs
 | block id c ih =>
  intro hk R s K r hs F ρ a w h ht Q hQ
  simp only [sem] at hs
  refine wp_block (ih hk hs h ht fun e s' F' ρ' a' w' h1 h2 ht2 => ?_)
  cases e with
  | normal => exact hQ .normal s' F' ρ' a' w' h1 h2 ht2
  | exit n =>
   simp only at h1
   simp only [EK.ex, Exit.inBlock]
   split at h1
   ·rename_i e; rw [if_pos e]; exact hQ .normal s' F' ρ' a' w' h1 h2 ht2
   ·rename_i e; rw [if_neg e]; exact hQ (.exit n) s' F' ρ' a' w' h1 h2 ht2
  | ret => exact hQ .ret s' F' ρ' a' w' h1 h2 ht2
 | loop c ih =>
  intro hk R s K r hs F ρ a w h ht Q hQ
  simp only [sem] at hs
  split at hs
  ·cases hs
  ·rename_i i hi
   split at hs
   ·cases hs
   ·rename_i lh hlh
    split at hs
    ·cases hs
    ·rename_i x hx
     split at hs
     ·cases hs
     ·rename_i y hy
      obtain ⟨F1, ρ1, h1⟩ := pack_law h hx
      refine wp_loop_down (fun k a w => ∃ x F ρ, iterN (fun x => sem tb Γ H fuel nn c (unpack nn lh.inv x) fun e s' => match e with
       | .normal => (pack nn s' lh.inv).map Sum.inl
       | e => (outPack nn s' e lh.exits).map Sum.inr) k x = some y ∧ RelAt F0 M W0 F ρ (unpack nn lh.inv x) a w ∧ T a) fuel ⟨x, F1, ρ1, hy, h1, ht⟩ fun k a' w' hJ => ?_
      obtain ⟨x', F2, ρ2, h3, h4, ht4⟩ := hJ
      cases k with
      | zero => simp [iterN] at h3
      | succ k =>
       simp only [iterN] at h3
       split at h3
       ·cases h3
       ·rename_i x2 hx2
        refine ih hk hx2 h4 ht4 fun e s' F' ρ' a'' w'' g1 g2 ht5 => ?_
        cases e with
        | normal =>
         simp only at g1
         cases hp : pack nn s' lh.inv with
         | none => rw [hp] at g1; cases g1
         | some z =>
          rw [hp] at g1
          simp only [Option.map_some, Option.some.injEq, Sum.inl.injEq] at g1
          subst g1
          obtain ⟨F3, ρ3, h5⟩ := pack_law g2 hp
          exact ⟨k, Nat.lt_succ_self k, _, F3, ρ3, h3, h5, ht5⟩
        | exit n =>
         simp only at g1
         cases hp : outPack nn s' (.exit n) lh.exits with
         | none => rw [hp] at g1; cases g1
         | some z => rw [hp] at g1; cases g1
        | ret =>
         simp only at g1
         cases hp : outPack nn s' .ret lh.exits with
         | none => rw [hp] at g1; cases g1
         | some z => rw [hp] at g1; cases g1
       ·rename_i y2 hy2
        cases h3
        refine ih hk hy2 h4 ht4 fun e s' F' ρ' a'' w'' g1 g2 ht5 => ?_
        cases e with
        | normal =>
         simp only at g1
         cases hp : pack nn s' lh.inv with
         | none => rw [hp] at g1; cases g1
         | some z => rw [hp] at g1; cases g1
        | exit n =>
         simp only at g1
         cases hp : outPack nn s' (.exit n) lh.exits with
         | none => rw [hp] at g1; cases g1
         | some z =>
          rw [hp] at g1
          simp only [Option.map_some, Option.some.injEq, Sum.inr.injEq] at g1
          subst g1
          obtain ⟨st, F3, ρ3, h5, h6⟩ := outPack_law g2 lh.exits hp hs
          exact hQ (.exit n) st F3 ρ3 a'' w'' h5 h6 ht5
        | ret =>
         simp only at g1
         cases hp : outPack nn s' .ret lh.exits with
         | none => rw [hp] at g1; cases g1
         | some z =>
          rw [hp] at g1
          simp only [Option.map_some, Option.some.injEq, Sum.inr.injEq] at g1
          subst g1
          obtain ⟨st, F3, ρ3, h5, h6⟩ := outPack_law g2 lh.exits hp hs
          exact hQ .ret st F3 ρ3 a'' w'' h5 h6 ht5
 | exit n =>
  intro hk R s K r hs F ρ a w h ht Q hQ
  simp only [sem] at hs
  exact wp_exit (hQ (.exit n) s F ρ a w hs h ht)
 | scope c ih => intro hk R s K r hs; simp [sem] at hs
 | label l =>
  intro hk R s K r hs F ρ a w h ht Q hQ
  simp only [sem] at hs
  exact wp_label (hQ .normal s F ρ a w hs h ht)
 | goto l => intro hk R s K r hs; simp [sem] at hs
 | ret =>
  intro hk R s K r hs F ρ a w h ht Q hQ
  simp only [sem] at hs
  exact wp_ret (hQ .ret s F ρ a w hs h ht)
 | rangeFunc => intro hk R s K r hs; simp [sem] at hs
 | refuse => intro hk R s K r hs; simp [sem] at hs
end Go.Vu
