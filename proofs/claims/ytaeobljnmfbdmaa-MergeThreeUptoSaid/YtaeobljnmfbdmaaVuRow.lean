/- Value semantics, part 30: a law's row, out of its values' function. -/
import Derived.Test.YtaeobljnmfbdmaaVuGlue
import Derived.WalkKit
import Derived.ProofKit
import Derived.OpenShut
import Derived.JoinedCond
import Derived.Below
import Derived.Carry
set_option linter.unusedVariables false
namespace Go.Vu
open Go Go.ChangeShapes Go.WideShapes Go.ChangeAt Go.RowKit
variable {P : Program}
def roPs : List Ty → List PM
 | [] => []
 | T :: r => .ro T :: roPs r
def fitsAll : (Ts : List Ty) → PDen (roPs Ts) → Prop
 | [], _ => True
 | T :: r, v => fits T v.1 ∧ fitsAll r v.2
def bulkVs : (Ts : List Ty) → PDen (roPs Ts) → Nat
 | [], _ => 0
 | T :: r, v => bulkV T v.1 + bulkVs r v.2
def tysB (P : Program) : List Ty → List TypeId → Bool
 | [], [] => true
 | T :: r, t :: q => tyB P 12 T (.inl t) && T.pure && P.readableRec t && decide (t < P.types.size) && tysB P r q
 | _, _ => false
theorem arg_v1 {W : World} {H : Type} {enc : TypeId × Value → H} {t : TypeId} {v : Value} {d : DataW H} {p : List MemPlace} {T : Ty} {base : Nat} (ht : tyB P 12 T (.inl t) = true)
  (hv : Value.okWide P W .any base t v) (h : DataW.Trod enc P W 0 (fun _ => true) true t v d p) : ∃ x : T.den, RepV1 (allB W) (mem W) ρ0 T x v ∧ fits T x ∧ bulkV T x ≤ bulk d := by
 obtain ⟨fuel, hf⟩ := h
 obtain ⟨x, h1, h2, h3⟩ := (open_law 12 T).1 t fuel _ _ ht hf
 refine ⟨x, ?_, h2, h3⟩
 unfold RepV1
 simp only [tyB] at ht
 cases T <;> simp only [Bool.false_eq_true] at ht
 ·split at ht
  ·rename_i hu
   obtain ⟨n, rfl⟩ := okWide_int hu hv
   exact ⟨rfl, h1⟩
  ·cases ht
 ·split at ht
  ·rename_i hu
   have : ∃ b, v = .bool b := by
    simp only [Value.okWide, hu, Cell.okWide] at hv
    cases v <;> simp_all [Cell.ok]
   obtain ⟨b, rfl⟩ := this
   exact ⟨rfl, h1⟩
  ·cases ht
 ·split at ht
  ·rename_i hu
   obtain ⟨n, rfl⟩ := okWide_string hu hv
   exact ⟨rfl, h1⟩
  ·cases ht
 ·split at ht
  ·rename_i fs hu
   simp only [Value.okWide, hu] at hv
   obtain ⟨cs, rfl, _⟩ := hv
   simp only [isSt, if_true]
   exact ⟨cs.toList, by simp, h1⟩
  ·rename_i m e hu
   simp only [Value.okWide, hu] at hv
   obtain ⟨cs, rfl, _⟩ := hv
   simp only [isSt, if_true]
   exact ⟨cs.toList, by simp, h1⟩
  ·cases ht
 ·split at ht
  ·rename_i e hu
   obtain ⟨a, n, c, rfl⟩ := okWide_slice hu hv
   exact ⟨rfl, h1⟩
  ·cases ht
theorem args_open {W : World} {H : Type} {enc : TypeId × Value → H} {base : Nat} : ∀ (Ts : List Ty) (ts : List TypeId) (vs : List Value) (ds : List (DataW H)) (ps : List MemPlace), tysB P Ts ts = true →
  DataW.TrodAll enc P W 0 (fun _ => true) true ts vs ds ps → (∀ (j : Nat) t v, ts[j]? = some t → vs[j]? = some v → Value.okWide P W .any base t v) →
  ∃ v : PDen (roPs Ts), ArgsRep (allB W) W (plR ρ0) (roPs Ts) v vs [] ∧ fitsAll Ts v ∧ bulkVs Ts v ≤ bulkAll ds
 | [], [], vs, ds, ps, _, h, _ => by
  obtain ⟨rfl, rfl, rfl⟩ := trodAll_nil h
  exact ⟨(), ⟨rfl, rfl⟩, trivial, Nat.le_refl _⟩
 | [], _ :: _, _, _, _, h, _, _ => by simp [tysB] at h
 | _ :: _, [], _, _, _, h, _, _ => by simp [tysB] at h
 | T :: Ts, t :: ts, vs, ds, ps, ht, h, hv => by
  simp only [tysB, Bool.and_eq_true, decide_eq_true_eq] at ht
  obtain ⟨⟨⟨⟨h1, h2⟩, h3⟩, h4⟩, h5⟩ := ht
  obtain ⟨v, vs', d, ds', p, q, rfl, rfl, rfl, g1, g2⟩ := trodAll_cons h
  obtain ⟨x, k1, k2, k3⟩ := arg_v1 h1 (hv 0 t v rfl rfl) g1
  obtain ⟨y, k4, k5, k6⟩ := args_open Ts ts vs' ds' q h5 g2 (fun j t v h1 h2 => hv (j + 1) t v (by simpa using h1) (by simpa using h2))
  exact ⟨(x, y), ⟨v, vs', rfl, Ty.hold_of_pure _ h2, k1.hold (Ty.hold_of_pure _ h2) (fun p hp i x hx => (by cases hx)), k4⟩, ⟨k2, k5⟩, by simp only [bulkVs, bulkAll]; omega⟩
theorem trodAll_below {H : Type} {enc : TypeId × Value → H} (hl : laidOutB P = true) {W W' : World} (hb : Below W.heap.size W W') : ∀ (Ts : List Ty) (ts : List TypeId) (vs : List Value) (ds : List (DataW H)) (ps : List MemPlace), tysB P Ts ts = true →
  DataW.TrodAll enc P W 0 (fun _ => true) true ts vs ds ps → (∀ x ∈ ps, x.block < W.heap.size) → DataW.TrodAll enc P W' 0 (fun b => decide (b < W.heap.size)) true ts vs ds ps
 | [], [], vs, ds, ps, _, h, _ => by
  obtain ⟨rfl, rfl, rfl⟩ := trodAll_nil h
  exact trodAll_mk0
 | [], _ :: _, _, _, _, h, _, _ => by simp [tysB] at h
 | _ :: _, [], _, _, _, h, _, _ => by simp [tysB] at h
 | T :: Ts, t :: ts, vs, ds, ps, ht, h, hp => by
  simp only [tysB, Bool.and_eq_true, decide_eq_true_eq] at ht
  obtain ⟨⟨⟨⟨h1, h2⟩, h3⟩, h4⟩, h5⟩ := ht
  obtain ⟨v, vs', d, ds', p, q, rfl, rfl, rfl, g1, g2⟩ := trodAll_cons h
  exact trodAll_cons_mk (Below.trod hl h3 h4 g1 hb (fun x hx => hp x (by simp [hx]))) (trodAll_below hl hb Ts ts vs' ds' q h5 g2 (fun x hx => hp x (by simp [hx])))
theorem kept_below {w w' : World} (h : Kept (Blk []) w w') : Below w.heap.size w w' :=
 ⟨h.os, h.tape, h.output, h.size, fun k hk => h.block k hk (fun hb => by obtain ⟨ri, h1, _⟩ := hb; cases h1)⟩
theorem law_calls {H : Type} {enc : TypeId × Value → H} {f : Nat} {fn : Func} {s : ChangeSpec} {Ts : List Ty} {ts : List TypeId} {c : Ctr} {g : PDen (roPs Ts) → Option (ODen (mutTy (roPs Ts)) × RDen [.val .bool])} {m : ODen (mutTy (roPs Ts))} {bt : TypeId} {N : Nat}
  (hok : Ctr.Ok P f ⟨roPs Ts, [.val .bool], g⟩) (htrue : ∀ v, fitsAll Ts v → bulkVs Ts v ≤ N → g v = some (m, (true, ())))
  (hlaid : laidOutB P = true) (hpar : fn.params.toList = ts) (hts : tysB P Ts ts = true) (hbt : P.underlying bt = some .bool) (hres : fn.resultTypes = #[bt]) (hvars : s.vars = [])
  (hfn : ∀ ds : List (DataW H), ds.length = ts.length → s.fn H ds = { results := [.lit (.bool true)], args := ds })
  {W : World} {base : Nat} {args : Array Value} {ds gs : List (DataW H)} {before : List MemPlace}
  (hval : ∀ (j : Nat) t v, fn.params[j]? = some t → args[j]? = some v → Value.okWide P W .any base t v)
  (hW : DataW.Whole enc P fn.params.toList s.vars false W args.toList ds gs before) (hk : bulkAll (ds ++ gs) ≤ N) :
  Calls P f args W fun e W' => ∃ v, e = .returned v ∧ s.post enc P fn false true false false W args v W' := by
 have hW' := hW
 obtain ⟨p, q, hA, hV, rfl, hfz, hnd⟩ := hW
 rw [hvars] at hV
 obtain ⟨rfl, rfl⟩ := trodVars_none hV
 rw [hpar] at hA
 simp only [List.append_nil] at hk hW'
 obtain ⟨v, h1, h2, h3⟩ := args_open Ts ts args.toList ds p hts hA (fun j t v h1 h2 => hval j t v (by rw [← Array.getElem?_toList, hpar]; exact h1) (by rw [← Array.getElem?_toList]; exact h2))
 have hcall := hok v _ (htrue v h2 (by omega)) W (allB W) ρ0 args.toList [] (fun b hb => hb) h1 trivial (fun b hb => by obtain ⟨ri, h1, _⟩ := hb; cases h1)
 rw [show args.toList.toArray = args by simp] at hcall
 refine hcall.mono fun e W' ⟨val, Fn, mrs, rrs, he, hkept, hFn, hr, _⟩ => ?_
 subst he
 obtain ⟨_, _, hr1, hr2⟩ := hr
 have hval' : val = .bool true := by simpa [Rep] using hr2
 subst hval'
 have hb := kept_below hkept
 have hlen : ds.length = ts.length := by
  have : ∀ (ts : List TypeId) (vs : List Value) (ds : List (DataW H)) (ps : List MemPlace), DataW.TrodAll enc P W 0 (fun _ => true) true ts vs ds ps → ds.length = ts.length := by
   intro ts
   induction ts with
   | nil => intro vs ds ps h; obtain ⟨_, rfl, _⟩ := trodAll_nil h; rfl
   | cons t ts ih =>
    intro vs ds ps h
    obtain ⟨v, vs', d, ds', p, q, rfl, rfl, rfl, _, g2⟩ := trodAll_cons h
    simp [ih _ _ _ g2]
  exact this _ _ _ _ hA
 refine ⟨_, rfl, ds, [], p, [], p, [], hW', ?_, ?_, ?_, hb.frame _, fun h => by cases h⟩
 ·rw [hres]
  simp only [List.append_nil, hfn ds hlen]
  exact trodAll_mk1 (shut_bool hbt true)
 ·simp only [List.append_nil, hfn ds hlen]
  rw [hpar]
  exact trodAll_below hlaid hb Ts ts _ _ _ hts hA (fun x hx => hW'.lt x hx)
 ·simp only [List.append_nil, hfn ds hlen, hvars]
  rfl
end Go.Vu
