/- Value semantics, part 20: an operation, as the machine carries it out. -/
import Derived.Test.YtaeobljnmfbdmaaVuLaw13d
import Derived.Test.YtaeobljnmfbdmaaVuSem
set_option linter.unusedVariables false
namespace Go.Vu
open Go
variable {P : Program} {tb : Tab} {R : Type} {F0 : Bs} {M F : Nat → Prop} {W0 w w' : World} {ρ : RK → Option RI} {s : St} {a : Act} {m : Nat → Nat → Option Value} {id : Nat}
theorem wp_of_done {o : Oper} {e : Eff R} {sm : Sem Value} (hx : execOp a.eval o = (do pure (Next.value (← sm)))) (hd : Done P F0 M W0 a w id e sm) {v} (hv : e.k.c = some v) {next : Act → World → Prop} {Q : Exit → Act → World → Prop}
  (hn : ∀ F' ρ' val w', RelAt F0 M W0 F' ρ' (e.out o.dst id v) (a.put o.dst val) w' → next (a.put o.dst val) w') : o.wp P a w next Q := by
 obtain ⟨val, w', F', ρ', h1, h2⟩ := hd v hv
 unfold Oper.wp
 rw [hx]
 simp only [Sem.run_bind, h1, Result.andThen_ok, Sem.run_pure, Oper.upon_value]
 exact hn F' ρ' val w' (h2 o.dst)
theorem wp_of_doneU {o : Oper} {e : Eff R} {sm : Sem Unit} (hx : execOp a.eval o = (do sm; pure Next.skip)) (hd : DoneU P F0 M W0 a w id e sm) {v} (hv : e.k.c = some v) {next : Act → World → Prop} {Q : Exit → Act → World → Prop}
  (hn : ∀ F' ρ' val w', RelAt F0 M W0 F' ρ' (e.out o.dst id v) (a.put o.dst val) w' → next (a.put o.dst val) w') : o.wp P a w next Q := by
 obtain ⟨w', F', ρ', h1, h2⟩ := hd v hv
 unfold Oper.wp
 rw [hx]
 simp only [Sem.run_bind, h1, Result.andThen_ok, Sem.run_pure, Oper.upon_skip]
 exact hn F' ρ' undef w' (h2 o.dst)
theorem wp_of_pure {o : Oper} {e : Eff R} {x : Value} (hx : execOp a.eval o = pure (Next.value x)) (hd : Done P F0 M W0 a w id e (pure x)) {v} (hv : e.k.c = some v) {next : Act → World → Prop} {Q : Exit → Act → World → Prop}
  (hn : ∀ F' ρ' val w', RelAt F0 M W0 F' ρ' (e.out o.dst id v) (a.put o.dst val) w' → next (a.put o.dst val) w') : o.wp P a w next Q :=
 wp_of_done (sm := pure x) (by rw [hx]; rfl) hd hv hn
theorem RepL.append : ∀ (xs ys : List TV) (vs us : List Value), RepL F m ρ xs vs → RepL F m ρ ys us → RepL F m ρ (xs ++ ys) (vs ++ us)
 | [], ys, vs, us, h1, h2 => by rw [show vs = [] from h1]; exact h2
 | x :: xs, ys, vs, us, ⟨v, r, e, h3, h4, h5⟩, h2 => by subst e; exact ⟨v, r ++ us, rfl, h3, h4, RepL.append xs ys r us h5 h2⟩
theorem unchain_law : ∀ (t : Ty) (v : t.den) (ds : List Value) (l : List TV), unchain t v = some l → Rep F m ρ t v ds → RepL F m ρ l ds := by
 intro t
 induction t with
 | pair a b iha ihb =>
  intro v ds l h hr
  obtain ⟨c1, c2, e, h1, h2⟩ := hr
  subst e
  simp only [unchain] at h
  split at h
  ·rename_i hc
   simp only [Bool.and_eq_true, Bool.not_eq_true', beq_iff_eq] at hc
   split at h
   ·rename_i l' hl
    cases h
    obtain ⟨x, e, hx⟩ := flatV1 hc.1.1 h1 hc.1.2 (by rw [Rep.length _ _ _ h1, hc.2])
    subst e
    exact ⟨x, c2, rfl, RepV.of hx, (by cases a <;> first | rfl | cases hc.1.1), ihb v.2 c2 l' hl h2⟩
   ·cases h
  ·cases h
 | unit => intro v ds l h hr; simp only [unchain, Option.some.injEq] at h; subst h; exact hr
 | _ => intro v ds l h; simp [unchain] at h
theorem isFresh_iff {id : Nat} : isFresh s id = true ↔ ol s.objs id = none := by
 unfold isFresh
 cases ol s.objs id <;> simp
theorem freshE_law {e : Eff R} (h : freshE s id e = true) : ol s.objs id = none ∧ (∀ q ∈ newIds id e.nt, ol s.objs q = none) ∧ ∀ q ∈ updIds (id + 16) e.ut, ol s.objs q = none := by
 unfold freshE at h
 simp only [Bool.and_eq_true, List.all_eq_true, isFresh_iff] at h
 exact ⟨h.1.1.1, h.1.2, h.2⟩
theorem op_wp {Γ : Nat → List Ctr} (hT : TabOk P tb) (hΓ : CtrsOk P Γ) (h : RelAt F0 M W0 F ρ s a w) {o : Oper} {e : Eff R} (hfe : freshE s id e = true) (he : opD tb Γ o id s = some e) {v} (hv : e.k.c = some v)
  {next : Act → World → Prop} {Q : Exit → Act → World → Prop} (hn : ∀ F' ρ' val w', RelAt F0 M W0 F' ρ' (e.out o.dst id v) (a.put o.dst val) w' → next (a.put o.dst val) w') : o.wp P a w next Q := by
 obtain ⟨hf, hfn, hfu⟩ := freshE_law hfe
 unfold opD at he
 cases ho : o.op <;> rw [ho] at he <;> simp only [reduceCtorEq] at he
 case move x => exact wp_of_pure (by simp only [execOp, ho]) (move_law h he) hv hn
 case assign x => exact wp_of_pure (by simp only [execOp, ho]) (move_law h he) hv hn
 case pick c x y =>
  refine wp_of_done (sm := do pure (if ← asBool (a.eval c) then a.eval x else a.eval y)) ?_ (pick_law h he) hv hn
  simp only [execOp, ho, bind_assoc, pure_bind]
 case alloc t => exact wp_of_done (by simp only [execOp, ho]) (alloc_law hT h hf he) hv hn
 case box t x => exact wp_of_done (by simp only [execOp, ho]) (box_law (t := t) h hf he) hv hn
 case build t parts => exact wp_of_done (by simp only [execOp, ho]) (build_law hT h he) hv hn
 case buildSlice t len parts => exact wp_of_done (by simp only [execOp, ho]) (buildSlice_law hT h hf he) hv hn
 case load t x => exact wp_of_done (by simp only [execOp, ho]) (load_op hT h he) hv hn
 case store t x y => exact wp_of_doneU (by simp only [execOp, ho]) (store_law hT h he) hv hn
 case nilCheck x =>
  unfold opNilCheck at he
  split at he
  ·rename_i r q i hx
   cases he
   obtain ⟨ri, p, h1, h2, h3⟩ := evOad h hx
   exact wp_of_pure (x := .pointer (some (adr (p.1, p.2 + Int.toNat i * ri.sz + q)))) (by simp only [execOp, ho, h3]) (done_ret h rfl (RepV.of (t := .oad r q) ⟨rfl, ri, p, h1, h2, rfl⟩)) hv hn
  ·rename_i r q i hx
   cases he
   obtain ⟨ri, p, h1, h2, h3⟩ := evPdd h hx
   exact wp_of_pure (x := .pointer (some (adr (p.1, p.2 + Int.toNat i.2 * ri.sz + q)))) (by simp only [execOp, ho, h3]) (done_ret h rfl (RepV.of (t := .pdd r q) ⟨rfl, ri, p, h1, h2, rfl⟩)) hv hn
  ·rename_i T q u hx
   cases he
   obtain ⟨p, ds, h1, h2⟩ := evRad h hx
   exact wp_of_pure (x := .pointer (some (adr (p.1, p.2 + q)))) (by simp only [execOp, ho, h1]) (done_ret h rfl (RepV.of (t := .rad T q) ⟨rfl, p, ds, rfl, h2⟩)) hv hn
  ·rename_i r q u hx
   cases he
   obtain ⟨ri, p, h1, h2, h3⟩ := evPad h hx
   exact wp_of_pure (x := .pointer (some (adr (p.1, p.2 + q)))) (by simp only [execOp, ho, h3]) (done_ret h rfl (RepV.of (t := .pad r q) ⟨rfl, ri, p, h1, h2, rfl⟩)) hv hn
  ·rename_i T u hx
   cases he
   obtain ⟨h1, h2⟩ := (ev_law h hx).1
   have hu : ∃ y, u = some y := by
    simp only [Eff.one, Cnd.map, Cnd.look] at hv
    cases u with
    | none => simp at hv
    | some y => exact ⟨y, rfl⟩
   obtain ⟨y, rfl⟩ := hu
   rcases h2 with ⟨h2, _⟩ | ⟨y', p, ds, e1, e2, h3⟩
   ·cases h2
   ·cases e1
    have e3 : a.eval x = .pointer (some (adr p)) := by simpa using e2
    refine wp_of_pure (x := .pointer (some (adr p))) (by simp only [execOp, ho, e3]) (done_one h fun z hz => ⟨_, rfl, ?_⟩) hv hn
    cases hz
    exact RepV.of (t := .rad T 0) ⟨rfl, p, ds, rfl, h3⟩
  ·rename_i f c u hx
   cases he
   obtain ⟨h1, ds, h2, h3⟩ := (ev_law h hx).1
   have e3 : a.eval x = .func (.func f) #[] ds.toArray := by simpa using h2
   exact wp_of_pure (x := .func (.func f) #[] ds.toArray) (by simp only [execOp, ho, e3]) (done_ret h rfl (RepV.of (t := .clo f c) ⟨rfl, ds, rfl, h3⟩)) hv hn
  ·cases he
 case range t x => exact wp_of_done (by simp only [execOp, ho]) (range_law hT h hf he) hv hn
 case next x b => exact wp_of_done (by simp only [execOp, ho]) (next_law (ty := o.type) h he) hv hn
 case makeMap t r =>
  cases r with
  | none => exact wp_of_done (by simp only [execOp, ho, Option.map_none]) (makeMap_law hT h hf he) hv hn
  | some r => cases he
 case lookup t x i b => exact wp_of_done (by simp only [execOp, ho]) (lookup_law hT h he) hv hn
 case mapUpdate t m k v => exact wp_of_doneU (by simp only [execOp, ho]) (mapUpdate_law hT h he) hv hn
 case entry x => exact wp_of_done (by simp only [execOp, ho]) (entry_law h he) hv hn
 case binOp op t x y t2 => exact wp_of_done (by simp only [execOp, ho]) (bin_law hT h he) hv hn
 case unOp op t x => exact wp_of_done (by simp only [execOp, ho]) (un_law h he) hv hn
 case convert t1 t2 x => exact wp_of_done (by simp only [execOp, ho]) (conv_law hT h he) hv hn
 case makeFunc fn first captured => exact wp_of_done (by simp only [execOp, ho]) (makeFunc_law h he) hv hn
 case makeSlice t l c => exact wp_of_done (by simp only [execOp, ho]) (makeSlice_law hT h hf he) hv hn
 case slice t x lo hi mx => exact wp_of_done (by simp only [execOp, ho]) (slice_op hT h he) hv hn
 case fieldAddr t x f => exact wp_of_done (by simp only [execOp, ho]) (fieldAddr_law hT h he) hv hn
 case field t x f => exact wp_of_done (by simp only [execOp, ho]) (field_law hT h he) hv hn
 case indexAddr t x i => exact wp_of_done (by simp only [execOp, ho]) (indexAddr_law hT h he) hv hn
 case index t x i => exact wp_of_done (by simp only [execOp, ho]) (index_law hT h he) hv hn
 case extract x i => exact wp_of_done (by simp only [execOp, ho]) (extract_law h he) hv hn
 case call c =>
  cases hc : c.callee with
  | builtin b =>
   rw [hc] at he
   have hex : ∀ sm : Sem Value, (builtin b c.argTypes o.type (c.args.map fun | .const _ => true | _ => false) (c.args.map a.eval) = do pure (Next.value (← sm))) → execOp a.eval o = (do pure (Next.value (← sm))) := fun sm hs => by
    simp only [execOp, ho, resolve, hc, pure_bind, invoke]
    exact hs
   cases b <;> simp only [reduceCtorEq] at he
   case append => exact wp_of_done (hex _ rfl) (app_law hT h hf he) hv hn
   case clear =>
    split at he
    ·rename_i t x h1 h2
     have e1 : c.argTypes = #[t] := by apply Array.ext'; simpa using h1
     have e2 : c.args.map a.eval = #[a.eval x] := by apply Array.ext'; rw [Array.toList_map, h2]; rfl
     exact wp_of_done (hex _ rfl) (by rw [e1, e2]; exact clear_law hT h he) hv hn
    ·cases he
   case cap =>
    split at he
    ·rename_i t x h1 h2
     have e1 : c.argTypes = #[t] := by apply Array.ext'; simpa using h1
     have e2 : c.args.map a.eval = #[a.eval x] := by apply Array.ext'; rw [Array.toList_map, h2]; rfl
     exact wp_of_done (hex _ rfl) (by rw [e1, e2]; exact cap_law hT h he) hv hn
    ·cases he
   case len =>
    split at he
    ·rename_i t x h1 h2
     have e1 : c.argTypes = #[t] := by apply Array.ext'; simpa using h1
     have e2 : c.args.map a.eval = #[a.eval x] := by apply Array.ext'; rw [Array.toList_map, h2]; rfl
     exact wp_of_done (hex _ rfl) (by rw [e1, e2]; exact len_law hT h he) hv hn
    ·cases he
   case max => exact wp_of_done (hex _ rfl) (max_law h he) hv hn
   case min => exact wp_of_done (hex _ rfl) (min_law h he) hv hn
  | invoke r mth => rw [hc] at he; cases he
  | value fv =>
   rw [hc] at he
   simp only at he
   split at he
   ·rename_i f q u xs hfv hxs
    split at he
    ·rename_i ys hys
     obtain ⟨h1, ds, h2, h3⟩ := (ev_law h hfv).1
     have e3 : a.eval fv = .func (.func f) #[] ds.toArray := by simpa using h2
     have hl := RepL.append xs ys _ _ (evs_law h hxs) (unchain_law q u ds ys hys h3)
     have hcall := call_law hΓ h he hl hfn hfu v hv
     obtain ⟨c', _, _, _, _, _, _, hc'⟩ := opCall_some he
     have hent := (hΓ f c' hc'.mem).2
     unfold Oper.wp
     have hex : (execOp a.eval o).run P w = .ok (.enter f ((c.args.toList.map a.eval) ++ ds).toArray) w := by
      simp only [execOp, ho, resolve, hc, e3, Deferred.ofValue, pure_bind, invoke]
      rw [hent]
      congr 2
      apply Array.ext'
      simp
     rw [hex, Oper.upon_enter]
     refine hcall.mono fun en w'' ⟨val, F', ρ', e4, h4⟩ => ?_
     subst e4
     exact hn F' ρ' val w'' (h4 o.dst)
    ·cases he
   ·cases he
end Go.Vu
