/- Value semantics, part 25: a body of code, as the machine carries it out. -/
import Derived.Test.YtaeobljnmfbdmaaVuLaw18
set_option linter.unusedVariables false
namespace Go.Vu
open Go
variable {P : Program} {tb : Tab} {Γ : Nat → List Ctr} {F0 : Bs} {M F F' : Nat → Prop} {W0 w w' : World} {ρ ρ' : RK → Option RI} {s s' : St} {a : Act}
def EK.ex : EK → Exit
 | .normal => .normal
 | .exit n => .exit n
 | .ret => .ret
theorem outPack_law {R : Type} {n : Nat} {e : EK} {K : EK → St → Option R} {r : R} (h : RelAt F0 M W0 F ρ s a w) : ∀ (l : List (EK × Tpl)) {y : Outs l}, outPack n s e l = some y → outK n K l y = some r →
  ∃ st F' ρ', K e st = some r ∧ RelAt F0 M W0 F' ρ' st a w
 | [], y, _, _ => y.elim
 | [p], y, h1, h2 => by
  simp only [outPack] at h1
  split at h1
  ·rename_i he
   subst he
   obtain ⟨F', ρ', h3⟩ := pack_law h h1
   exact ⟨_, F', ρ', h2, h3⟩
  ·cases h1
 | p :: q :: l, y, h1, h2 => by
  simp only [outPack] at h1
  split at h1
  ·rename_i he
   subst he
   cases hp : pack n s p.2 with
   | none => rw [hp] at h1; cases h1
   | some x =>
    rw [hp] at h1
    simp only [Option.map_some, Option.some.injEq] at h1
    subst h1
    obtain ⟨F', ρ', h3⟩ := pack_law h hp
    exact ⟨_, F', ρ', h2, h3⟩
  ·cases hp : outPack n s e (q :: l) with
   | none => rw [hp] at h1; cases h1
   | some x =>
    rw [hp] at h1
    simp only [Option.map_some, Option.some.injEq] at h1
    subst h1
    exact outPack_law h (q :: l) hp h2
theorem least {p : Nat → Prop} : ∀ (n : Nat), p n → ∃ k, p k ∧ ∀ m, p m → k ≤ m := by
 intro n
 induction n using Nat.strongRecOn with
 | _ n ih =>
  intro h
  by_cases hh : ∃ m, m < n ∧ p m
  ·obtain ⟨m, h1, h2⟩ := hh; exact ih m h1 h2
  ·refine ⟨n, h, fun m hm => ?_⟩
   rcases Nat.lt_or_ge m n with h1 | h1
   ·exact absurd ⟨m, h1, hm⟩ hh
   ·exact h1
open Classical in
theorem wp_loop_down {c : Code} {Q : Exit → Act → World → Prop} (J : Nat → Act → World → Prop) (n : Nat) (h0 : J n a w) (round : ∀ k a w, J k a w → c.wp P (Exit.then (fun a' w' => ∃ j, j < k ∧ J j a' w') Q) a w) :
  (Code.loop c).wp P Q a w := by
 have hl : ∀ a w, (∃ k, J k a w) → ∃ k, J k a w ∧ ∀ m, J m a w → k ≤ m := fun a w ⟨k, hk⟩ => least (p := fun k => J k a w) k hk
 let μ : Act → World → Nat := fun a w => if hh : ∃ k, J k a w then Classical.choose (hl a w hh) else 0
 have hμ : ∀ a w, (∃ k, J k a w) → J (μ a w) a w ∧ ∀ m, J m a w → μ a w ≤ m := fun a w hh => by
  have := Classical.choose_spec (hl a w hh)
  simp only [μ, dif_pos hh]
  exact this
 refine wp_loop (fun a w => ∃ k, J k a w) μ ⟨n, h0⟩ fun a w hJ => ?_
 refine Code.wp_mono (fun e a' w' q => ?_) (round (μ a w) a w (hμ a w hJ).1)
 cases e <;> try exact q
 obtain ⟨j, hj, hJ'⟩ := q
 exact ⟨⟨j, hJ'⟩, Nat.lt_of_le_of_lt ((hμ a' w' ⟨j, hJ'⟩).2 j hJ') hj⟩
def Keeps (T : Act → Prop) : Code → Prop
 | .region _ ops _ => KeepsL T ops.toList
 | .seq a b => Keeps T a ∧ Keeps T b
 | .cond _ a b => Keeps T a ∧ Keeps T b
 | .block _ c => Keeps T c
 | .loop c => Keeps T c
 | _ => True
theorem beq_cases (a b : Nat) : Nat.beq a b = true ∨ Nat.beq a b = false := by cases Nat.beq a b <;> simp
theorem nextS_skip {i j : Nat} {t : Ty} {r : List (Nat × Ty)} {x : SDen ((j, t) :: r)} (h : Nat.beq j i = false) : nextS i ((j, t) :: r) x = (x.1, nextS i r x.2) := by cases t <;> first | rfl | (simp only [nextS, h]; rfl)
theorem curS_skip {i j : Nat} {t : Ty} {r : List (Nat × Ty)} {x : SDen ((j, t) :: r)} (h : Nat.beq j i = false) : curS i ((j, t) :: r) x = curS i r x.2 := by cases t <;> first | rfl | (simp only [curS, h]; rfl)
theorem sameS_skip {i j : Nat} {t : Ty} {r : List (Nat × Ty)} {x y : SDen ((j, t) :: r)} (h : Nat.beq j i = false) : sameS i ((j, t) :: r) x y ↔ x.1 = y.1 ∧ sameS i r x.2 y.2 := by cases t <;> first | exact Iff.rfl | (simp only [sameS, h]; simp)
theorem restS_skip {i j : Nat} {t : Ty} {r : List (Nat × Ty)} {x y : SDen ((j, t) :: r)} (h : Nat.beq j i = false) : restS i ((j, t) :: r) x y ↔ restS i r x.2 y.2 := by cases t <;> first | exact Iff.rfl | (simp only [restS, h]; simp)
theorem permS_skip {i j : Nat} {t : Ty} {r : List (Nat × Ty)} {x y : SDen ((j, t) :: r)} (h : Nat.beq j i = false) : permS i ((j, t) :: r) x y ↔ x.1 = y.1 ∧ permS i r x.2 y.2 := by cases t <;> first | exact Iff.rfl | (simp only [permS, h]; simp)
theorem hasIt_cons {i j : Nat} {t : Ty} {r : List (Nat × Ty)} (h : hasIt i ((j, t) :: r) = true) : (Nat.beq j i = true ∧ ∃ k v, t = .mit k v) ∨ (Nat.beq j i = false ∧ hasIt i r = true) := by
 simp only [hasIt] at h
 rcases beq_cases j i with hb | hb
 ·rw [hb] at h
  refine .inl ⟨hb, ?_⟩
  cases t <;> first | exact ⟨_, _, rfl⟩ | cases h
 ·rw [hb] at h; exact .inr ⟨hb, h⟩
structure ItAt (i : Nat) (sl : List (Nat × Ty)) (x : SDen sl) (k0 j : Nat) (kk : IntKind) (v : Ty) (l : List (Int × v.den)) (c : Option (Int × v.den)) : Prop where
 slot : asc (unS sl x k0) i = ⟨.pad (k0 + j) 0, ()⟩
 cont : (unC sl x k0)[j]? = some (.mit kk v l c)
 perm : ∀ l' : List (Int × v.den), l.Perm l' → ∃ x', permS i sl x x' ∧ unS sl (nextS i sl x') k0 = unS sl x k0 ∧ unC sl (nextS i sl x') k0 = (unC sl x k0).set j (.mit kk v l'.tail l'.head?) ∧ curS i sl (nextS i sl x') = ⟨.tup (.nxt (.int kk) v), l'.head?⟩
theorem it_at {i : Nat} : ∀ {sl : List (Nat × Ty)}, hasIt i sl = true → ∀ (x : SDen sl) (k0 : Nat), ∃ j kk v l c, ItAt i sl x k0 j kk v l c
 | [], h, _, _ => by cases h
 | (q, t) :: r, h, x, k0 => by
  rcases hasIt_cons h with ⟨hb, kk, v, rfl⟩ | ⟨hb, h⟩
  ·refine ⟨0, kk, v, x.1.1, x.1.2, ⟨?_, rfl, fun l' hl => ⟨((l', x.1.2), x.2), ?_, ?_, ?_, ?_⟩⟩⟩
   ·simp only [unS, asc, hb, cond_true]; rfl
   ·simp only [permS, hb, if_true]; exact ⟨hl, trivial, trivial⟩
   ·simp only [nextS, hb, cond_true]; rfl
   ·simp only [nextS, hb, cond_true]; rfl
   ·simp only [nextS, curS, hb, cond_true]
  ·obtain ⟨j, kk, v, l, c, ih⟩ := it_at h x.2 (k0 + cnt t)
   refine ⟨cnt t + j, kk, v, l, c, ⟨?_, ?_, fun l' hl => ?_⟩⟩
   ·simp only [unS, asc, hb, cond_false]; rw [ih.slot, Nat.add_assoc]
   ·simp only [unC]
    rw [List.getElem?_append_right (by rw [opnC_length]; omega), opnC_length, Nat.add_sub_cancel_left]; exact ih.cont
   ·obtain ⟨x', h1, h2, h3, h4⟩ := ih.perm l' hl
    refine ⟨(x.1, x'), (permS_skip hb).2 ⟨rfl, h1⟩, ?_, ?_, ?_⟩
    ·rw [nextS_skip hb]; simp only [unS]; rw [h2]
    ·rw [nextS_skip hb]
     simp only [unC]
     rw [h3, List.set_append_right _ _ (by rw [opnC_length]; omega), opnC_length, Nat.add_sub_cancel_left]
    ·rw [nextS_skip hb, curS_skip hb]; exact h4
theorem permS_refl {i : Nat} : ∀ (sl : List (Nat × Ty)) (x : SDen sl), permS i sl x x
 | [], _ => trivial
 | (j, t) :: r, x => by
  rcases beq_cases j i with hb | hb
  ·cases t <;> first | exact ⟨rfl, permS_refl r x.2⟩ | (simp only [permS, hb, if_true]; exact ⟨List.Perm.refl _, trivial, trivial⟩)
  ·exact (permS_skip hb).2 ⟨rfl, permS_refl r x.2⟩
def consS (i : Nat) : (sl : List (Nat × Ty)) → SDen sl → SDen sl → SDen sl
 | [], x, _ => x
 | (j, .mit _ _) :: r, x, z => bif Nat.beq j i then ((x.1.1.head?.toList ++ z.1.1, x.1.2), x.2) else (x.1, consS i r x.2 z.2)
 | (_, _) :: r, x, z => (x.1, consS i r x.2 z.2)
theorem consS_skip {i j : Nat} {t : Ty} {r : List (Nat × Ty)} {x z : SDen ((j, t) :: r)} (h : Nat.beq j i = false) : consS i ((j, t) :: r) x z = (x.1, consS i r x.2 z.2) := by cases t <;> first | rfl | (simp only [consS, h]; rfl)
theorem cons_law {i : Nat} : ∀ {sl : List (Nat × Ty)}, hasIt i sl = true → ∀ {x z z' : SDen sl}, restS i sl z (nextS i sl x) → permS i sl z z' →
  permS i sl x (consS i sl x z') ∧ sameS i sl (nextS i sl x) (nextS i sl (consS i sl x z')) ∧ restS i sl (nextS i sl (consS i sl x z')) z'
 | [], h, _, _, _, _, _ => by cases h
 | (q, t) :: r, h, x, z, z', hr, hp => by
  rcases hasIt_cons h with ⟨hb, kk, v, rfl⟩ | ⟨hb, h⟩
  ·simp only [restS, nextS, hb, if_true, cond_true] at hr
   simp only [permS, hb, if_true] at hp
   simp only [permS, sameS, restS, nextS, consS, hb, if_true, cond_true]
   obtain ⟨h1, h2, h3⟩ := hp
   rw [hr] at h1
   cases hx : x.1.1 with
   | nil =>
    rw [hx] at h1
    have h1 : z'.1.1 = [] := h1.symm.eq_nil
    rw [h1]
    simp
   | cons e l =>
    rw [hx] at h1
    simp only [List.tail_cons] at h1
    refine ⟨⟨?_, trivial, trivial⟩, ⟨?_, trivial⟩, ?_⟩
    ·simp only [List.head?_cons, Option.toList_some, List.singleton_append]; exact h1.cons e
    ·simp
    ·simp
  ·obtain ⟨g1, g2, g3⟩ := cons_law h ((restS_skip hb).1 (by rw [nextS_skip hb] at hr; exact hr)) ((permS_skip hb).1 hp).2
   rw [consS_skip hb, nextS_skip hb, nextS_skip hb]
   exact ⟨(permS_skip hb).2 ⟨rfl, g1⟩, (sameS_skip hb).2 ⟨rfl, g2⟩, (restS_skip hb).2 g3⟩
theorem same_rest {i : Nat} : ∀ {sl : List (Nat × Ty)} {a b c z : SDen sl}, permS i sl z c → sameS i sl z a → restS i sl a b → restS i sl b c → a = c
 | [], _, _, _, _, _, _, _, _ => rfl
 | (q, t) :: r, a, b, c, z, hp, hs, h1, h2 => by
  have key : (z.1 = c.1 ∧ permS i r z.2 c.2) → (z.1 = a.1 ∧ sameS i r z.2 a.2) → restS i r a.2 b.2 → restS i r b.2 c.2 → a = c := fun hp hs h1 h2 =>
   Prod.ext (hs.1.symm.trans hp.1) (same_rest hp.2 hs.2 h1 h2)
  rcases beq_cases q i with hb | hb
  ·cases t <;> first
    | exact key hp hs h1 h2
    | (
      simp only [permS, sameS, restS, hb, if_true] at hp hs h1 h2
      exact Prod.ext (Prod.ext (h1.trans h2) (hs.1.symm.trans hp.2.1)) (hs.2.symm.trans hp.2.2))
  ·exact key ((permS_skip hb).1 hp) ((sameS_skip hb).1 hs) ((restS_skip hb).1 h1) ((restS_skip hb).1 h2)
theorem X_ext {sl : List (Nat × Ty)} : ∀ {pl : List (Nat × Ty)} {a b : XDen sl pl}, xS pl a = xS pl b → xP pl a = xP pl b → a = b
 | [], _, _, h, _ => h
 | _ :: _, _, _, h1, h2 => Prod.ext h1 h2
def SemLaw (P : Program) (tb : Tab) (Γ : Nat → List Ctr) (F0 : Bs) (M : Nat → Prop) (W0 : World) (H : Nat → Option LH) (fuel nn : Nat) (T : Act → Prop) (c : Code) : Prop :=
 Keeps T c → ∀ {R : Type} {s : St} {K : EK → St → Option R} {r : R}, sem tb Γ H fuel nn c s K = some r →
  ∀ {F : Nat → Prop} {ρ : RK → Option RI} {a : Act} {w : World}, RelAt F0 M W0 F ρ s a w → T a → ∀ {Q : Exit → Act → World → Prop}, (∀ e s' F' ρ' a' w', K e s' = some r → RelAt F0 M W0 F' ρ' s' a' w' → T a' → Q e.ex a' w') → c.wp P Q a w
def stepR {X Y : Type} (k : X → Option Y) : Option (X ⊕ Y) → Option Y
 | none => none
 | some (.inl z) => k z
 | some (.inr y) => some y
theorem iterN_succ {X Y : Type} (f : X → Option (X ⊕ Y)) (n : Nat) (x : X) : iterN f (n + 1) x = stepR (iterN f n) (f x) := by
 cases h : f x with
 | none => simp [iterN, stepR, h]
 | some s => cases s <;> simp [iterN, stepR, h]
theorem asc_unFn {i : Nat} : ∀ (fn : List (Nat × Nat)) (l : List (Nat × TV)), (fn.any fun p => Nat.beq p.1 i) = false → asc (unFn fn l) i = asc l i
 | [], _, _ => rfl
 | (j, f) :: r, l, h => by
  simp only [List.any_cons, Bool.or_eq_false_iff] at h
  simp only [unFn, asc, h.1, cond_false]
  exact asc_unFn r l h.2
theorem unpack_set {n : Nat} {t : Tpl} {x z : t.X} {j : Nat} {c c0 : Cont} (h1 : unS t.sl (xS t.pl z) 0 = unS t.sl (xS t.pl x) 0) (h2 : unC t.sl (xS t.pl z) 0 = (unC t.sl (xS t.pl x) 0).set j c) (h3 : xP t.pl z = xP t.pl x) (hc : (unC t.sl (xS t.pl x) 0)[j]? = some c0) (m : Nat) :
  ((((unpack n t x).setObj j .dead).setObj j (.live c))).Eqv ((unpack n t z).room m) := by
 refine ⟨rfl, fun i => ?_, fun r => ?_, ?_⟩
 ·show (unpack n t x).get i = (unpack n t z).get i
  simp only [St.get, unpack, h1]
 ·rw [set_set, ol_setObj]
  show _ = ol (unpack n t z).objs r
  rw [unpack_ol, unpack_ol, h2, List.getElem?_set]
  split
  ·have hlt : j < (unC t.sl (xS t.pl x) 0).length := by
    rcases Nat.lt_or_ge j (unC t.sl (xS t.pl x) 0).length with g | g
    ·exact g
    ·rw [List.getElem?_eq_none g] at hc; cases hc
   rw [if_pos hlt]; rfl
  ·rfl
 ·show unP t.pl (xP t.pl x) = unP t.pl (xP t.pl z)
  rw [h3]
theorem itloop_law (hT : TabOk P tb) (hΓ : CtrsOk P Γ) {H : Nat → Option LH} {fuel nn : Nat} {T : Act → Prop} {id : Nat} {ops : Array Oper} {c2 : Code} (hk : Keeps T (.seq (.region id ops false) c2)) (law2 : SemLaw P tb Γ F0 M W0 H fuel nn T c2) {lh : LH} {d i : Nat}
  (hh : itHead nn lh.inv (.seq (.region id ops false) c2) = some (d, i)) {R : Type} {K : EK → St → Option R} {r : R} {x0 : lh.inv.X}
  (hs : iterM i lh.inv.pl (fun x => semOps tb Γ ops (unpack nn lh.inv x).nx 0 false (ops.toList.drop 1) 1 [] (((unpack nn lh.inv x).room (32 * ops.size)).put (some d) (curS i lh.inv.sl (xS lh.inv.pl x))) fun s => sem tb Γ H fuel nn c2 s fun e s' => match e with
        | .normal => (pack nn s' lh.inv).map Sum.inl
        | e => (outPack nn s' e lh.exits).map Sum.inr) fuel x0 (outK nn K lh.exits) = some r) (h : RelAt F0 M W0 F ρ (unpack nn lh.inv x0) a w) (ht : T a)
  {Q : Exit → Act → World → Prop} (hQ : ∀ e s' F' ρ' a' w', K e s' = some r → RelAt F0 M W0 F' ρ' s' a' w' → T a' → Q e.ex a' w') : (Code.loop (.seq (.region id ops false) c2)).wp P Q a w := by
 obtain ⟨hind, hs⟩ := onlyIf_some hs
 simp only [itHead] at hh
 split at hh
 ·rename_i o l hops
  split at hh
  ·rename_i it d' hop hdst hg
   split at hh
   ·rename_i hc
    simp only [Bool.and_eq_true, Bool.not_eq_true'] at hc
    obtain ⟨⟨hit, hfn⟩, hlt⟩ := hc
    cases hh
    generalize hgdef : (fun x : lh.inv.X => semOps tb Γ ops (unpack nn lh.inv x).nx 0 false (ops.toList.drop 1) 1 [] (((unpack nn lh.inv x).room (32 * ops.size)).put (some d) (curS i lh.inv.sl (xS lh.inv.pl x))) fun s => sem tb Γ H fuel nn c2 s fun e s' => match e with
        | .normal => (pack nn s' lh.inv).map Sum.inl
        | e => (outPack nn s' e lh.exits).map Sum.inr) = g at hs hind
    refine wp_loop_down (fun k a w => ∃ (x : lh.inv.X) (F : Nat → Prop) (ρ : RK → Option RI), RelAt F0 M W0 F ρ (unpack nn lh.inv x) a w ∧ T a ∧
      ∀ x' : lh.inv.X, permX i lh.inv.pl x x' → ∃ y, iterN (fun x => g (nextX i lh.inv.pl x)) k x' = some y ∧ outK nn K lh.exits y = some r) fuel ⟨x0, F, ρ, h, ht, fun x' hx' => ?_⟩ fun k a' w' hJ => ?_
    ·have := anyOf_some hs hx'
     split at this
     ·cases this
     ·rename_i y hy; exact ⟨y, hy, this⟩
    ·obtain ⟨x, F2, ρ2, h2, ht2, hall⟩ := hJ
     cases k with
     | zero =>
      obtain ⟨y, hy, _⟩ := hall x ⟨permS_refl _ _, rfl⟩
      simp [iterN] at hy
     | succ k =>
      obtain ⟨j, kk, v, l0, c0, hat⟩ := it_at hit (xS lh.inv.pl x) 0
      have hslot : (unpack nn lh.inv x).get i = some ⟨.pad j 0, ()⟩ := by
       rw [St.get_lt (by show i < nn; simpa [Nat.blt_eq] using hlt)]
       show some (asc (unFn lh.inv.fn (unS lh.inv.sl (xS lh.inv.pl x) 0)) i) = _
       rw [asc_unFn _ _ hfn, hat.slot, Nat.zero_add]
      have hev : ev (unpack nn lh.inv x) (.tmp i) = some ⟨.pad j 0, ()⟩ := by simp only [ev, hslot]; rfl
      have hcont : (unpack nn lh.inv x).cont j = some (.mit kk v l0 c0) := by rw [unpack_cont]; exact hat.cont
      obtain ⟨l', hperm, val, w1, hrun, hrel, hval⟩ := next_step (P := P) h2 hev hcont o.type
      obtain ⟨v', p1, p2, p3, p4⟩ := hat.perm l' hperm
      let x' : lh.inv.X := mkX lh.inv.pl v' (xP lh.inv.pl x)
      have xs' : xS lh.inv.pl x' = v' := xS_mk
      have xp' : xP lh.inv.pl x' = xP lh.inv.pl x := xP_mk
      have hpx : permX i lh.inv.pl x x' := ⟨by rw [xs']; exact p1, by rw [xp']⟩
      let z0 : lh.inv.X := nextX i lh.inv.pl x'
      have zs : xS lh.inv.pl z0 = nextS i lh.inv.sl v' := by show xS _ (mkX _ _ _) = _; rw [xS_mk, xs']
      have zp : xP lh.inv.pl z0 = xP lh.inv.pl x := by show xP _ (mkX _ _ _) = _; rw [xP_mk, xp']
      obtain ⟨y, hy, hK⟩ := hall x' hpx
      have hy : stepR (iterN (fun x => g (nextX i lh.inv.pl x)) k) (g z0) = some y := (iterN_succ _ _ _).symm.trans hy
      have hS : RelAt F0 M W0 F2 ρ2 (((unpack nn lh.inv z0).room (32 * ops.size)).put (some d) (curS i lh.inv.sl (xS lh.inv.pl z0))) (a'.put (some d) val) w1 := by
       rw [zs, p4]
       exact (hrel.put (some d) ⟨_, _⟩ val hval).eqv ((unpack_set (by rw [zs]; exact p2) (by rw [zs]; exact p3) zp hat.cont _).put _ _)
      have ht3 : T (a'.put (some d) val) := by
       have := hk.1 o (by rw [hops]; simp) a' val ht2
       rw [hdst] at this; exact this
      have body : ∀ res, g z0 = some res → ∀ {Q' : Exit → Act → World → Prop}, (∀ e s' F' ρ' a'' w'', (match e with | EK.normal => (pack nn s' lh.inv).map Sum.inl | e => (outPack nn s' e lh.exits).map Sum.inr) = some res → RelAt F0 M W0 F' ρ' s' a'' w'' → T a'' → Q' e.ex a'' w'') →
        (Code.seq (.region id ops false) c2).wp P Q' a' w' := fun res hres Q' hQ' => by
       refine wp_seq (wp_region_list ?_)
       rw [hops]
       refine wpList_plain hg fun KK hKK => ?_
       unfold Oper.wp
       have hex : (execOp a'.eval o).run P w' = .ok (.value val) w1 := by
        simp only [execOp, hop, Sem.run_bind, hrun, Result.andThen_ok]
        rfl
       rw [hex]
       show KK (a'.put o.dst val) w1
       refine hKK _ _ ?_
       rw [hdst]
       rw [← hgdef] at hres
       obtain ⟨U, s3, r1, r2, _, _, _⟩ := semOps_run _ _ _ _ hres
       have hdrop : ops.toList.drop 1 = l := by rw [hops]; rfl
       rw [hdrop] at r1
       refine run_wp hT hΓ (s' := s3) (T := T) (fun F' ρ' a'' w'' hr ht4 => ?_) r1 (fun o' ho' => hk.1 o' (by rw [hops]; simp [ho'])) hS ht3
       exact law2 hk.2 r2 hr ht4 hQ'
      cases hgz : g z0 with
      | none => rw [hgz] at hy; cases hy
      | some res =>
       rw [hgz] at hy
       refine body res hgz fun e s' F' ρ' a'' w'' g1 g2 ht5 => ?_
       cases res with
       | inl z =>
        simp only [stepR] at hy
        cases e with
        | normal =>
         simp only at g1
         cases hp : pack nn s' lh.inv with
         | none => rw [hp] at g1; cases g1
         | some z1 =>
          rw [hp] at g1
          simp only [Option.map_some, Option.some.injEq, Sum.inl.injEq] at g1
          subst g1
          obtain ⟨F3, ρ3, h5⟩ := pack_law g2 hp
          refine ⟨k, Nat.lt_succ_self k, z1, F3, ρ3, h5, ht5, fun z' hz' => ?_⟩
          obtain ⟨hrz, _⟩ := hind z0 z0 ⟨by
           have : ∀ (sl : List (Nat × Ty)) (x : SDen sl), sameS i sl x x := by
            intro sl
            induction sl with
            | nil => intro x; trivial
            | cons p r ih =>
             intro x
             obtain ⟨q, t⟩ := p
             rcases beq_cases q i with hb | hb
             ·cases t <;> first | exact ⟨rfl, ih x.2⟩ | (simp only [sameS, hb, if_true]; exact ⟨trivial, trivial⟩)
             ·exact (sameS_skip hb).2 ⟨rfl, ih x.2⟩
           exact this _ _, rfl⟩ z1 hgz
          have hrz' : restS i lh.inv.sl (xS lh.inv.pl z1) (nextS i lh.inv.sl v') := by
           have : restS i lh.inv.sl (xS lh.inv.pl z1) (xS lh.inv.pl z0) := hrz
           rw [zs] at this; exact this
          obtain ⟨c1, c2', c3⟩ := cons_law hit hrz' hz'.1
          let x2 : lh.inv.X := mkX lh.inv.pl (consS i lh.inv.sl v' (xS lh.inv.pl z')) (xP lh.inv.pl x)
          have xs2 : xS lh.inv.pl x2 = consS i lh.inv.sl v' (xS lh.inv.pl z') := xS_mk
          have xp2 : xP lh.inv.pl x2 = xP lh.inv.pl x := xP_mk
          have z2s : xS lh.inv.pl (nextX i lh.inv.pl x2) = nextS i lh.inv.sl (consS i lh.inv.sl v' (xS lh.inv.pl z')) := by show xS _ (mkX _ _ _) = _; rw [xS_mk, xs2]
          have z2p : xP lh.inv.pl (nextX i lh.inv.pl x2) = xP lh.inv.pl x := by show xP _ (mkX _ _ _) = _; rw [xP_mk, xp2]
          have trans : permS i lh.inv.sl (xS lh.inv.pl x) (consS i lh.inv.sl v' (xS lh.inv.pl z')) := by
           have key : ∀ (sl : List (Nat × Ty)) (a b c : SDen sl), permS i sl a b → permS i sl b c → permS i sl a c := by
            intro sl
            induction sl with
            | nil => intro a b c _ _; trivial
            | cons p r ih =>
             intro a b c h1 h2
             obtain ⟨q, t⟩ := p
             rcases beq_cases q i with hb | hb
             ·cases t <;> first
               | exact ⟨h1.1.trans h2.1, ih _ _ _ h1.2 h2.2⟩
               | (
                 simp only [permS, hb, if_true] at h1 h2 ⊢
                 exact ⟨h1.1.trans h2.1, h1.2.1.trans h2.2.1, h1.2.2.trans h2.2.2⟩)
             ·have h1 := (permS_skip hb).1 h1
              have h2 := (permS_skip hb).1 h2
              exact (permS_skip hb).2 ⟨h1.1.trans h2.1, ih _ _ _ h1.2 h2.2⟩
           exact key _ _ _ _ p1 c1
          obtain ⟨_, z3, g3, g4, g5⟩ := hind z0 (nextX i lh.inv.pl x2) ⟨by rw [zs, z2s]; exact c2', by rw [zp, z2p]⟩ z1 hgz
          obtain ⟨y2, hy2, hK2⟩ := hall x2 ⟨by rw [xs2]; exact trans, by rw [xp2]⟩
          have hy2 : stepR (iterN (fun x => g (nextX i lh.inv.pl x)) k) (g (nextX i lh.inv.pl x2)) = some y2 := (iterN_succ _ _ _).symm.trans hy2
          rw [g3] at hy2
          simp only [stepR] at hy2
          have e3 : z3 = z' := X_ext (same_rest hz'.1 g4.1 g5 (by rw [z2s]; exact c3)) (g4.2.symm.trans hz'.2)
          rw [e3] at hy2
          exact ⟨y2, hy2, hK2⟩
        | exit n =>
         simp only at g1
         cases hp : outPack nn s' (.exit n) lh.exits with
         | none => rw [hp] at g1; cases g1
         | some z => rw [hp] at g1; cases g1
        | ret =>
         simp only at g1
         cases hp : outPack nn s' .ret lh.exits with
         | none => rw [hp] at g1; cases g1
         | some z => rw [hp] at g1; cases g1
       | inr y2 =>
        simp only [stepR, Option.some.injEq] at hy
        subst hy
        cases e with
        | normal =>
         simp only at g1
         cases hp : pack nn s' lh.inv with
         | none => rw [hp] at g1; cases g1
         | some z => rw [hp] at g1; cases g1
        | exit n =>
         simp only at g1
         cases hp : outPack nn s' (.exit n) lh.exits with
         | none => rw [hp] at g1; cases g1
         | some z =>
          rw [hp] at g1
          simp only [Option.map_some, Option.some.injEq, Sum.inr.injEq] at g1
          subst g1
          obtain ⟨st, F3, ρ3, h5, h6⟩ := outPack_law g2 lh.exits hp hK
          exact hQ (.exit n) st F3 ρ3 a'' w'' h5 h6 ht5
        | ret =>
         simp only at g1
         cases hp : outPack nn s' .ret lh.exits with
         | none => rw [hp] at g1; cases g1
         | some z =>
          rw [hp] at g1
          simp only [Option.map_some, Option.some.injEq, Sum.inr.injEq] at g1
          subst g1
          obtain ⟨st, F3, ρ3, h5, h6⟩ := outPack_law g2 lh.exits hp hK
          exact hQ .ret st F3 ρ3 a'' w'' h5 h6 ht5
   ·cases hh
  ·cases hh
 ·cases hh
theorem sem_law (hT : TabOk P tb) (hΓ : CtrsOk P Γ) (hm : P.follows .mixedOrders = true) {H : Nat → Option LH} {fuel nn : Nat} {T : Act → Prop} : ∀ (c : Code), Keeps T c → ∀ {R : Type} {s : St} {K : EK → St → Option R} {r : R}, sem tb Γ H fuel nn c s K = some r →
  ∀ {F : Nat → Prop} {ρ : RK → Option RI} {a : Act} {w : World}, RelAt F0 M W0 F ρ s a w → T a → ∀ {Q : Exit → Act → World → Prop}, (∀ e s' F' ρ' a' w', K e s' = some r → RelAt F0 M W0 F' ρ' s' a' w' → T a' → Q e.ex a' w') → c.wp P Q a w := by
 suffices ∀ c : Code, SemLaw P tb Γ F0 M W0 H fuel nn T c ∧ ∀ x y, c = .seq x y → SemLaw P tb Γ F0 M W0 H fuel nn T y from fun c => (this c).1
 intro c
 induction c with
 | skip =>
  refine ⟨?_, fun _ _ e => by cases e⟩
  intro hk R s K r hs F ρ a w h ht Q hQ
  simp only [sem] at hs
  exact wp_skip (hQ .normal s F ρ a w hs h ht)
 | region id ops draw =>
  refine ⟨?_, fun _ _ e => by cases e⟩
  intro hk R s K r hs F ρ a w h ht Q hQ
  exact region_law hT hΓ hm h hs hk ht fun F' ρ' s' a' w' h1 h2 => hQ .normal s' F' ρ' a' w' h1 h2
 | seq x y ihx' ihy' =>
  have ihx := ihx'.1
  have ihy := ihy'.1
  refine ⟨?_, fun _ _ e => by cases e; exact ihy⟩
  intro hk R s K r hs F ρ a w h ht Q hQ
  simp only [sem] at hs
  split at hs
  ·rename_i lh hlh
   split at hs
   ·cases hs
   ·rename_i y' hy'
    refine wp_seq (ihx hk.1 hy' h ht fun e s' F' ρ' a' w' h1 h2 ht2 => ?_)
    obtain ⟨st, F3, ρ3, h5, h6⟩ := outPack_law h2 lh.exits h1 hs
    cases e with
    | normal => exact ihy hk.2 h5 h6 ht2 hQ
    | exit n => exact hQ (.exit n) st F3 ρ3 a' w' h5 h6 ht2
    | ret => exact hQ .ret st F3 ρ3 a' w' h5 h6 ht2
  ·refine wp_seq (ihx hk.1 hs h ht fun e s' F' ρ' a' w' h1 h2 ht2 => ?_)
   cases e with
   | normal => exact ihy hk.2 h1 h2 ht2 hQ
   | exit n => exact hQ (.exit n) s' F' ρ' a' w' h1 h2 ht2
   | ret => exact hQ .ret s' F' ρ' a' w' h1 h2 ht2
 | cond c x y ihx' ihy' =>
  have ihx := ihx'.1
  have ihy := ihy'.1
  refine ⟨?_, fun _ _ e => by cases e⟩
  intro hk R s K r hs F ρ a w h ht Q hQ
  simp only [sem] at hs
  split at hs
  ·rename_i v hv
   have he := evBool h hv
   cases v with
   | true => exact wp_cond he (ihx hk.1 hs h ht hQ)
   | false => exact wp_cond he (ihy hk.2 hs h ht hQ)
  ·cases hs
 | block id c ih' =>
  have ih := ih'.1
  refine ⟨?_, fun _ _ e => by cases e⟩
  intro hk R s K r hs F ρ a w h ht Q hQ
  simp only [sem] at hs
  refine wp_block (ih hk hs h ht fun e s' F' ρ' a' w' h1 h2 ht2 => ?_)
  cases e with
  | normal => exact hQ .normal s' F' ρ' a' w' h1 h2 ht2
  | exit n =>
   simp only at h1
   simp only [EK.ex, Exit.inBlock]
   split at h1
   ·rename_i e; rw [if_pos e]; exact hQ .normal s' F' ρ' a' w' h1 h2 ht2
   ·rename_i e; rw [if_neg e]; exact hQ (.exit n) s' F' ρ' a' w' h1 h2 ht2
  | ret => exact hQ .ret s' F' ρ' a' w' h1 h2 ht2
 | loop c ih' =>
  have ih := ih'.1
  refine ⟨?_, fun _ _ e => by cases e⟩
  intro hk R s K r hs F ρ a w h ht Q hQ
  simp only [sem] at hs
  split at hs
  ·cases hs
  ·rename_i i hi
   split at hs
   ·cases hs
   ·rename_i lh hlh
    split at hs
    ·cases hs
    ·rename_i x hx
     split at hs
     ·rename_i hhead
      split at hs
      ·cases hs
      ·rename_i y hy
       obtain ⟨F1, ρ1, h1⟩ := pack_law h hx
       refine wp_loop_down (fun k a w => ∃ x F ρ, iterN (fun x => sem tb Γ H fuel nn c (unpack nn lh.inv x) fun e s' => match e with
        | .normal => (pack nn s' lh.inv).map Sum.inl
        | e => (outPack nn s' e lh.exits).map Sum.inr) k x = some y ∧ RelAt F0 M W0 F ρ (unpack nn lh.inv x) a w ∧ T a) fuel ⟨x, F1, ρ1, hy, h1, ht⟩ fun k a' w' hJ => ?_
       obtain ⟨x', F2, ρ2, h3, h4, ht4⟩ := hJ
       cases k with
       | zero => simp [iterN] at h3
       | succ k =>
        simp only [iterN] at h3
        split at h3
        ·cases h3
        ·rename_i x2 hx2
         refine ih hk hx2 h4 ht4 fun e s' F' ρ' a'' w'' g1 g2 ht5 => ?_
         cases e with
         | normal =>
          simp only at g1
          cases hp : pack nn s' lh.inv with
          | none => rw [hp] at g1; cases g1
          | some z =>
           rw [hp] at g1
           simp only [Option.map_some, Option.some.injEq, Sum.inl.injEq] at g1
           subst g1
           obtain ⟨F3, ρ3, h5⟩ := pack_law g2 hp
           exact ⟨k, Nat.lt_succ_self k, _, F3, ρ3, h3, h5, ht5⟩
         | exit n =>
          simp only at g1
          cases hp : outPack nn s' (.exit n) lh.exits with
          | none => rw [hp] at g1; cases g1
          | some z => rw [hp] at g1; cases g1
         | ret =>
          simp only at g1
          cases hp : outPack nn s' .ret lh.exits with
          | none => rw [hp] at g1; cases g1
          | some z => rw [hp] at g1; cases g1
        ·rename_i y2 hy2
         cases h3
         refine ih hk hy2 h4 ht4 fun e s' F' ρ' a'' w'' g1 g2 ht5 => ?_
         cases e with
         | normal =>
          simp only at g1
          cases hp : pack nn s' lh.inv with
          | none => rw [hp] at g1; cases g1
          | some z => rw [hp] at g1; cases g1
         | exit n =>
          simp only at g1
          cases hp : outPack nn s' (.exit n) lh.exits with
          | none => rw [hp] at g1; cases g1
          | some z =>
           rw [hp] at g1
           simp only [Option.map_some, Option.some.injEq, Sum.inr.injEq] at g1
           subst g1
           obtain ⟨st, F3, ρ3, h5, h6⟩ := outPack_law g2 lh.exits hp hs
           exact hQ (.exit n) st F3 ρ3 a'' w'' h5 h6 ht5
         | ret =>
          simp only at g1
          cases hp : outPack nn s' .ret lh.exits with
          | none => rw [hp] at g1; cases g1
          | some z =>
           rw [hp] at g1
           simp only [Option.map_some, Option.some.injEq, Sum.inr.injEq] at g1
           subst g1
           obtain ⟨st, F3, ρ3, h5, h6⟩ := outPack_law g2 lh.exits hp hs
           exact hQ .ret st F3 ρ3 a'' w'' h5 h6 ht5
     ·rename_i d i hhead
      split at hs
      ·rename_i idr ops dr c2
       cases dr with
       | true => simp [itHead] at hhead
       | false =>
        obtain ⟨F1, ρ1, h1⟩ := pack_law h hx
        exact itloop_law hT hΓ hk (ih'.2 _ _ rfl) hhead hs h1 ht hQ
      ·cases hs
 | exit n =>
  refine ⟨?_, fun _ _ e => by cases e⟩
  intro hk R s K r hs F ρ a w h ht Q hQ
  simp only [sem] at hs
  exact wp_exit (hQ (.exit n) s F ρ a w hs h ht)
 | scope c ih => exact ⟨fun hk R s K r hs => by simp [sem] at hs, fun _ _ e => by cases e⟩
 | label l =>
  refine ⟨?_, fun _ _ e => by cases e⟩
  intro hk R s K r hs F ρ a w h ht Q hQ
  simp only [sem] at hs
  exact wp_label (hQ .normal s F ρ a w hs h ht)
 | goto l => exact ⟨fun hk R s K r hs => by simp [sem] at hs, fun _ _ e => by cases e⟩
 | ret =>
  refine ⟨?_, fun _ _ e => by cases e⟩
  intro hk R s K r hs F ρ a w h ht Q hQ
  simp only [sem] at hs
  exact wp_ret (hQ .ret s F ρ a w hs h ht)
 | rangeFunc => exact ⟨fun hk R s K r hs => by simp [sem] at hs, fun _ _ e => by cases e⟩
 | refuse => exact ⟨fun hk R s K r hs => by simp [sem] at hs, fun _ _ e => by cases e⟩
end Go.Vu
