/- Value semantics, part 28: a table of types, held against the program by the kernel. -/
import Derived.Test.YtaeobljnmfbdmaaVuRt
set_option linter.unusedVariables false
namespace Go.Vu
open Go
variable {P : Program}
def intB (k : IntKind) (n : Int) : List Value → Bool
 | [.int k' n'] => decide (k = k') && decide (n = n')
 | _ => false
def boolB (b : Bool) : List Value → Bool
 | [.bool b'] => decide (b = b')
 | _ => false
def strB (s : List UInt8) : List Value → Bool
 | [.string bs] => decide (s = bs.data.toList)
 | _ => false
def nilB : List Value → Bool
 | [.slice none 0 0] => true
 | _ => false
def nilpB : List Value → Bool
 | [.pointer none] => true
 | _ => false
def oneB : List Value → Bool
 | [_] => true
 | _ => false
def cellB : List Value → Bool
 | [c] => c.oneCell'
 | _ => false
def zeroB : (t : Ty) → t.den → List Value → Bool
 | .int k, n, cs => intB k n cs
 | .bool, b, cs => boolB b cs
 | .str, s, cs => strB s cs
 | .st t, v, cs => zeroB t v cs
 | .unit, _, cs => cs.isEmpty
 | .pair a b, v, cs => zeroB a v.1 (cs.take a.size) && zeroB b v.2 (cs.drop a.size)
 | .slice _, xs, cs => List.isEmpty xs && nilB cs
 | .ptr _, o, cs => Option.isNone o && nilpB cs
 | .nils, _, cs => nilB cs
 | .nilp, _, cs => nilpB cs
 | .any, _, cs => oneB cs
 | .lost, _, cs => cellB cs
 | _, _, _ => false
theorem nilB_law {cs : List Value} (h : nilB cs = true) : cs = [.slice none 0 0] := by
 unfold nilB at h
 split at h
 ·rfl
 ·cases h
theorem nilpB_law {cs : List Value} (h : nilpB cs = true) : cs = [.pointer none] := by
 unfold nilpB at h
 split at h
 ·rfl
 ·cases h
theorem zeroB_nil {F : Nat → Prop} {m : Nat → Nat → Option Value} {ρ : RK → Option RI} : ∀ (t : Ty) (v : t.den) (cs : List Value), zeroB t v cs = true → Rep F m ρ t v cs → Rep F m ρ (nilT t) (nilV t v) cs := by
 intro t
 induction t with
 | st t ih => intro v cs h hr; exact ih v cs h hr
 | pair a b iha ihb =>
  intro v cs h hr
  simp only [zeroB, Bool.and_eq_true] at h
  obtain ⟨c1, c2, e, h1, h2⟩ := hr
  have hl := Rep.length _ _ _ h1
  have e1 : cs.take a.size = c1 := by rw [e, ← hl]; simp
  have e2 : cs.drop a.size = c2 := by rw [e, ← hl]; simp
  rw [e1] at h; rw [e2] at h
  exact ⟨c1, c2, e, iha _ _ h.1 h1, ihb _ _ h.2 h2⟩
 | slice t ih =>
  intro v cs h hr
  simp only [zeroB, Bool.and_eq_true, List.isEmpty_iff] at h
  exact nilB_law h.2
 | ptr t ih =>
  intro v cs h hr
  simp only [zeroB, Bool.and_eq_true] at h
  exact nilpB_law h.2
 | _ => intro v cs h hr; exact hr
theorem zeroB_rep {F : Nat → Prop} {m : Nat → Nat → Option Value} {ρ : RK → Option RI} : ∀ (t : Ty) (v : t.den) (cs : List Value), zeroB t v cs = true → Rep F m ρ t v cs := by
 intro t
 induction t with
 | int k =>
  intro v cs h
  simp only [zeroB, intB] at h
  split at h
  ·simp only [Bool.and_eq_true, decide_eq_true_eq] at h
   obtain ⟨rfl, rfl⟩ := h
   rfl
  ·cases h
 | bool =>
  intro v cs h
  simp only [zeroB, boolB] at h
  split at h
  ·simp only [decide_eq_true_eq] at h; subst h; rfl
  ·cases h
 | str =>
  intro v cs h
  simp only [zeroB, strB] at h
  split at h
  ·simp only [decide_eq_true_eq] at h; subst h; rfl
  ·cases h
 | st t ih => intro v cs h; exact ih v cs h
 | unit => intro v cs h; simp only [zeroB, List.isEmpty_iff] at h; exact h
 | pair a b iha ihb =>
  intro v cs h
  simp only [zeroB, Bool.and_eq_true] at h
  exact ⟨_, _, (List.take_append_drop a.size cs).symm, iha _ _ h.1, ihb _ _ h.2⟩
 | slice t ih =>
  intro v cs h
  simp only [zeroB, Bool.and_eq_true, List.isEmpty_iff] at h
  obtain ⟨h1, h2⟩ := h
  rw [nilB_law h2]
  have h1 : v = ([] : List t.den) := h1
  subst h1
  exact ⟨none, 0, 0, rfl, rfl, Nat.le_refl _, fun h => absurd rfl h⟩
 | ptr t ih =>
  intro v cs h
  simp only [zeroB, Bool.and_eq_true, Option.isNone_iff_eq_none] at h
  obtain ⟨h1, h2⟩ := h
  rw [nilpB_law h2]
  exact .inl ⟨h1, rfl⟩
 | nils => intro v cs h; exact nilB_law h
 | nilp => intro v cs h; exact nilpB_law h
 | any =>
  intro v cs h
  simp only [zeroB, oneB] at h
  split at h
  ·rfl
  ·cases h
 | lost =>
  intro v cs h
  simp only [zeroB] at h
  unfold cellB at h
  split at h
  ·rename_i c; exact ⟨c, rfl, h⟩
  ·cases h
 | _ => intro v cs h; simp [zeroB] at h
def zero1B (t : Ty) (v : t.den) (z : Value) : Bool :=
 if isSt t then (match z with
  | .agg cs => zeroB t v cs.toList
  | _ => false) else z.oneCell' && zeroB t v [z]
theorem zero1B_rep {t : Ty} {v : t.den} {z : Value} (h : zero1B t v z = true) (F : Nat → Prop) (m : Nat → Nat → Option Value) (ρ : RK → Option RI) : RepV1 F m ρ t v z := by
 unfold zero1B at h
 unfold RepV1
 split
 ·rename_i hs
  rw [if_pos hs] at h
  split at h
  ·rename_i cs
   exact ⟨cs.toList, by simp, zeroB_rep _ _ _ h⟩
  ·cases h
 ·rename_i hs
  rw [if_neg hs] at h
  simp only [Bool.and_eq_true] at h
  exact ⟨h.1, zeroB_rep _ _ _ h.2⟩
theorem nilT_st (t : Ty) : isSt (nilT t) = isSt t := by cases t <;> rfl
theorem zero1B_nil {t : Ty} {v : t.den} {z : Value} (h : zero1B t v z = true) (F : Nat → Prop) (m : Nat → Nat → Option Value) (ρ : RK → Option RI) : RepV1 F m ρ (nilT t) (nilV t v) z := by
 have h0 := zero1B_rep h F m ρ
 unfold zero1B at h
 unfold RepV1 at h0 ⊢
 rw [nilT_st]
 split
 ·rename_i hs
  rw [if_pos hs] at h h0
  split at h
  ·rename_i cs
   obtain ⟨ds, e, h1⟩ := h0
   have e' : ds = cs.toList := by have := congrArg Array.toList (Value.agg.inj e); simpa using this.symm
   subst e'
   exact ⟨cs.toList, by simp, zeroB_nil _ _ _ h h1⟩
  ·cases h
 ·rename_i hs
  rw [if_neg hs] at h h0
  simp only [Bool.and_eq_true] at h
  exact ⟨h0.1, zeroB_nil _ _ _ h.2 h0.2⟩
def fieldB (P : Program) (f : Field) : Bool := f.name != "_" && (match P.info? f.type with
 | some inf => inf.size != 0
 | none => false)
def undB (P : Program) (t : Nat) : KD → Bool
 | .bool => match P.underlying t with | some .bool => true | _ => false
 | .int k => match P.underlying t with | some (.int k') => decide (k = k') | _ => false
 | .str => match P.underlying t with | some .string => true | _ => false
 | .slice e => match P.underlying t with | some (.slice e') => decide (e = e') | _ => false
 | .ptr e => match P.underlying t with | some (.pointer e') => decide (e = e') | _ => false
 | .arr n e => match P.underlying t with | some (.array n' e') => decide (n = n') && decide (e = e') | _ => false
 | .struct fs => match P.underlying t with
  | some (.struct fields) => decide (fields.toList.map (fun f => (f.offset, f.type)) = fs) && fields.toList.all (fieldB P)
  | _ => false
 | .map k e => match P.underlying t with
  | some (.map kt e') => decide (e = e') && (match P.underlying kt with | some (.int k') => decide (k = k') | _ => false)
  | _ => false
 | .other => true
def aggB (P : Program) (t : Nat) : Option Bool := match P.underlying t with
 | some (.struct _) => some true
 | some (.array _ _) => some true
 | some _ => some false
 | none => none
def tiB (P : Program) (t : Nat) (i : TI) : Bool :=
 (match P.info? t with
  | some info => info.size == i.sz && info.bytes == i.bys && (isAny i.ty || (match info.zero with
   | some z => zero1B i.ty i.zero z
   | none => false))
  | none => false) &&
 decide (aggB P t = some i.agg) && undB P t i.kd && (!i.eqb || (!P.stoodInHeld t && !P.eqGuardType P.depth t))
theorem aggB_run {t : Nat} {b : Bool} (h : aggB P t = some b) (w : World) : (isAgg t).run P w = .ok b w := by
 unfold aggB at h
 unfold isAgg
 split at h <;> first | cases h | skip
 ·rename_i hu; rw [Sem.run_bind, run_underlying hu, Result.andThen_ok]; rfl
 ·rename_i hu; rw [Sem.run_bind, run_underlying hu, Result.andThen_ok]; rfl
 ·rename_i d h1 h2 hu
  rw [Sem.run_bind, run_underlying hu, Result.andThen_ok]
  cases d <;> first | rfl | (exact (h1 _ rfl).elim) | (exact (h2 _ _ rfl).elim)
theorem tiB_ok {t : Nat} {i : TI} (h : tiB P t i = true) : TIOk P t i := by
 simp only [tiB, Bool.and_eq_true, decide_eq_true_eq] at h
 obtain ⟨⟨⟨h1, h2⟩, h3⟩, h4⟩ := h
 refine ⟨?_, aggB_run h2, ?_, fun info z hi hz hn F m ρ => ?_, fun he => ?_⟩
 ·split at h1
  ·rename_i info hi
   simp only [Bool.and_eq_true, beq_iff_eq, Bool.or_eq_true] at h1
   refine ⟨info, hi, h1.1.1, h1.1.2, fun hn => ?_⟩
   rcases h1.2 with h5 | h5
   ·rw [hn] at h5; cases h5
   ·split at h5
    ·rename_i z hz
     exact ⟨z, hz, fun F m ρ => zero1B_rep h5 F m ρ⟩
    ·cases h5
  ·cases h1
 ·cases hk : i.kd <;> rw [hk] at h3 <;> simp only [undB] at h3 ⊢
  ·split at h3
   ·assumption
   ·cases h3
  ·split at h3
   ·rename_i hu
    have h3 := of_decide_eq_true h3
    rw [hu, h3]
   ·cases h3
  ·split at h3
   ·assumption
   ·cases h3
  ·split at h3
   ·rename_i hu
    have h3 := of_decide_eq_true h3
    rw [hu, h3]
   ·cases h3
  ·split at h3
   ·rename_i fields hu
    simp only [Bool.and_eq_true, decide_eq_true_eq, List.all_eq_true] at h3
    refine ⟨fields, hu, h3.1, fun f hf => ?_⟩
    have := h3.2 f hf
    simp only [fieldB, Bool.and_eq_true, bne_iff_ne, ne_eq] at this
    refine ⟨this.1, ?_⟩
    have h6 := this.2
    split at h6
    ·rename_i inf hinf
     exact ⟨inf, hinf, by simpa using h6⟩
    ·cases h6
   ·cases h3
  ·split at h3
   ·rename_i hu
    have h3 := of_decide_eq_true h3
    rw [hu, h3]
   ·cases h3
  ·split at h3
   ·rename_i hu
    simp only [Bool.and_eq_true, decide_eq_true_eq] at h3
    rw [hu, h3.1, h3.2]
   ·cases h3
  ·split at h3
   ·rename_i kt e' hu
    simp only [Bool.and_eq_true, decide_eq_true_eq] at h3
    obtain ⟨h5, h6⟩ := h3
    split at h6
    ·rename_i k' hk'
     have h6 := of_decide_eq_true h6
     exact ⟨kt, by rw [hu, h5], by rw [hk', h6]⟩
    ·cases h6
   ·cases h3
 ·rw [hi] at h1
  simp only [Bool.and_eq_true, Bool.or_eq_true, hn, Bool.false_eq_true, false_or, hz] at h1
  exact zero1B_nil h1.2 F m ρ
 ·rw [he] at h4
  simpa using h4
def tabB (P : Program) : Tab → Bool
 | [] => true
 | (t, i) :: r => tiB P t i && tabB P r
theorem tabB_ok : ∀ {tb : Tab}, tabB P tb = true → TabOk P tb
 | [], _ => TabOk.nil P
 | (t, i) :: r, h => by
  simp only [tabB, Bool.and_eq_true] at h
  exact TabOk.cons (tiB_ok h.1) (tabB_ok h.2)
end Go.Vu
