/- Value semantics, part 7: a region that turns to what is only read; what each operation does, one by one. -/
import Derived.Test.YtfklhbmicfammaaVsLaw1
set_option linter.unusedVariables false
namespace Go.Vs
open Go

variable {P : Program} {tb : Tab} {R : Type} {F0 M F : Nat → Prop} {W0 w w' : World} {ρ : Nat → Option RI} {s : St} {a : Act} {m : Nat → Nat → Option Value}

/- - a whole region as a slice that is read -/
theorem ORep.slice {F' : Nat → Prop} {ri : RI} {ob : OB} (h : ORep F w ρ ri ob) (hF : ∀ b, F b → F' b) (hA : ∀ p, ri.A = some p → F' p.1) : RepV1 F' (mem w) ρ (.slice ob.t) ob.xs ri.val := by
  unfold RepV1
  rw [if_neg (by simp [isSt])]
  refine ⟨rfl, _, _, _, rfl, h.n, h.le, fun h0 => ?_⟩
  cases hA' : ri.A with
  | none => have := h.none hA'; have := h.le; omega
  | some p =>
    refine ⟨p, ?_, hA p hA', fun i x hi => ?_⟩
    · rcases h.raw with h1 | h1
      · have := h.le; omega
      · rw [h1, hA']; rfl
    obtain ⟨ds, h1, h2⟩ := h.cells p hA' i x hi
    rw [h.sz] at h1
    exact ⟨ds, h1, Rep.mono hF (fun _ _ _ _ h => h) (fun _ _ h => h) _ _ _ h2⟩

/- - a part of a region as a slice that is read -/
theorem ORep.part {F' : Nat → Prop} {ri : RI} {ob : OB} (h : ORep F w ρ ri ob) {r : Nat} (hr : ρ r = some ri) (hF : ∀ b, F b → F' b) (hA : ∀ p, ri.A = some p → F' p.1) {v : Nat × Nat} {x : Value}
    (hx : RepV1 F (mem w) ρ (.osl r) v x) : RepV1 F' (mem w) ρ (.slice ob.t) ((ob.xs.drop v.1).take v.2) x := by
  unfold RepV1 at *
  rw [if_neg (by simp [isSt])] at *
  obtain ⟨h1, ri', hr', A, c, e, hl, hc, hn, hAA, _⟩ := hx
  rw [hr] at hr'; cases hr'
  obtain rfl : x = _ := by simpa using e
  have hlen : List.length ((ob.xs.drop v.1).take v.2) = v.2 := by
    simp only [List.length_take, List.length_drop]; have := h.n; omega
  refine ⟨rfl, _, _, _, rfl, hlen.symm, hl, fun h0 => ?_⟩
  rcases hAA with hAA | ⟨p, hp, hAA⟩
  · omega
  · refine ⟨_, hAA, hA p hp, fun i y hi => ?_⟩
    have hi' : ob.xs[v.1 + i]? = some y := by
      rw [List.getElem?_take] at hi
      split at hi
      · simpa [List.getElem?_drop] using hi
      · cases hi
    obtain ⟨ds, h3, h4⟩ := h.cells p hp (v.1 + i) y hi'
    refine ⟨ds, ?_, Rep.mono hF (fun _ _ _ _ h => h) (fun _ _ h => h) _ _ _ h4⟩
    have : p.2 + (v.1 + i) * ri.sz = p.2 + v.1 * ri.sz + i * ob.t.size := by rw [Nat.add_mul, h.sz]; omega
    rwa [this] at h3

theorem frzTV_law {F' : Nat → Prop} {ri : RI} {ob : OB} {r : Nat} (hr : ρ r = some ri) (h : ORep F w ρ ri ob) (hF : ∀ b, F b → F' b) (hA : ∀ p, ri.A = some p → F' p.1) {x : TV} {val : Value}
    (hx : RepV F (mem w) ρ x.t x.v val) : RepV F' (mem w) ρ (frzTV r ob x).t (frzTV r ob x).v val := by
  have hm : RepV F' (mem w) ρ x.t x.v val := RepV.mono hF (fun _ _ _ _ h => h) (fun _ _ h => h) _ _ _ hx
  obtain ⟨t, v⟩ := x
  cases t with
  | ow q =>
    by_cases e : q = r
    · subst e
      rw [show frzTV q ob ⟨.ow q, v⟩ = ⟨.slice ob.t, ob.xs⟩ by simp [frzTV]]
      obtain ⟨h1, ri', h2, e⟩ := (hx : RepV1 F (mem w) ρ (.ow q) _ val)
      rw [hr] at h2; cases h2
      obtain rfl : val = _ := by simpa using e
      exact RepV.of (h.slice hF hA)
    · rw [show frzTV r ob ⟨.ow q, v⟩ = ⟨.ow q, v⟩ by simp [frzTV, e]]; exact hm
  | osl q =>
    by_cases e : q = r
    · subst e
      rw [show frzTV q ob ⟨.osl q, v⟩ = ⟨.slice ob.t, (ob.xs.drop v.1).take v.2⟩ by simp [frzTV]]
      exact RepV.of (h.part hr hF hA hx)
    · rw [show frzTV r ob ⟨.osl q, v⟩ = ⟨.osl q, v⟩ by simp [frzTV, e]]; exact hm
  | oad q o =>
    by_cases e : q = r
    · subst e
      obtain ⟨t, xs⟩ := ob
      match xs, h with
      | [], h => rw [show frzTV q ⟨t, []⟩ ⟨.oad q o, v⟩ = ⟨.any, ()⟩ by simp [frzTV]]; trivial
      | [y], h =>
        by_cases h0 : v = (0 : Int)
        · subst h0
          rw [show frzTV q ⟨t, [y]⟩ ⟨.oad q o, (0 : Int)⟩ = ⟨.rad t o, y⟩ by simp [frzTV]]
          obtain ⟨h1, ri', p, h2, h3, e⟩ := (hx : RepV1 F (mem w) ρ (.oad q o) (0 : Int) val)
          rw [hr] at h2; cases h2
          obtain rfl : val = _ := by simpa using e
          obtain ⟨ds, h4, h5⟩ := h.cells p h3 0 y rfl
          refine RepV.of (t := .rad t o) ⟨rfl, p, ds, by simp [adr], hA p h3, by simpa using h4, Rep.mono hF (fun _ _ _ _ h => h) (fun _ _ h => h) _ _ _ h5⟩
        · rw [show frzTV q ⟨t, [y]⟩ ⟨.oad q o, v⟩ = ⟨.any, ()⟩ by simp [frzTV, h0]]; trivial
      | y1 :: y2 :: l, h => rw [show frzTV q ⟨t, y1 :: y2 :: l⟩ ⟨.oad q o, v⟩ = ⟨.any, ()⟩ by simp [frzTV]]; trivial
    · rw [show frzTV r ob ⟨.oad q o, v⟩ = ⟨.oad q o, v⟩ by simp [frzTV, e]]; exact hm
  | _ => exact hm

theorem RelAt.slots (h : RelAt F0 M W0 F ρ s a w) (n : Nat) (l : List (Nat × TV)) (hl : ∀ (i : Nat) x, (St.mk n l s.objs).get i = some x → ∃ val, a.tmps[i]? = some val ∧ RepV F (mem w) ρ x.t x.v val) : RelAt F0 M W0 F ρ ⟨n, l, s.objs⟩ a w :=
  ⟨h.defers, hl, h.obj, h.sep, h.own, h.fresh, h.lt, h.base, h.frm, h.kept⟩

theorem ORep.blockLt {ri : RI} {ob : OB} (h : ORep F w ρ ri ob) {p : Nat × Nat} (hp : ri.A = some p) : p.1 < w.heap.size := by
  obtain ⟨cells, el, h3, _⟩ := h.block p hp
  rcases Nat.lt_or_ge p.1 w.heap.size with h4 | h4
  · exact h4
  · simp [Array.getElem?_eq_none h4] at h3

theorem frz_law' (h : RelAt F0 M W0 F ρ s a w) {r : Nat} {ob : OB} (hr : s.obj r = some ob) : ∃ F' ri, (∀ b, F b → F' b) ∧ ρ r = some ri ∧ ORep F w ρ ri ob ∧ (∀ p, ri.A = some p → F' p.1) ∧ RelAt F0 M W0 F' ρ (s.frz r ob) a w ∧
    (∀ b, F' b → F b ∨ ∃ p, ri.A = some p ∧ p.1 = b) := by
  obtain ⟨ri, hρ, ho⟩ := h.obj r ob hr
  have hk := h.kill r
  have hne : ∀ q ob', (s.setObj r .dead).obj q = some ob' → q ≠ r ∧ s.obj q = some ob' := fun q ob' hq => by
    by_cases e : r = q
    · subst e; rw [St.obj_setObj_same (St.obj_lt hr)] at hq; cases hq
    · rw [St.obj_setObj_ne e] at hq; exact ⟨Ne.symm e, hq⟩
  cases hA : ri.A with
  | none =>
    refine ⟨F, ri, fun _ h => h, hρ, ho, fun p hp => (by rw [hA] at hp; cases hp), ?_, fun b hb => .inl hb⟩
    refine hk.slots _ _ (fun i x hi => ?_)
    replace hi : (s.frz r ob).get i = some x := hi
    rw [get_frz] at hi
    cases hs : s.get i with
    | none => simp [hs] at hi
    | some y =>
      simp only [hs, Option.map_some, Option.some.injEq] at hi
      subst hi
      obtain ⟨val, h1, h2⟩ := h.slot i y hs
      exact ⟨val, h1, frzTV_law hρ ho (fun _ h => h) (fun p hp => (by rw [hA] at hp; cases hp)) h2⟩
  | some p =>
    have hf := hk.frz p.1 (ho.blockLt hA) (fun q ob' ri' p' hq h1 h2 e => by
      obtain ⟨hn, hq'⟩ := hne q ob' hq
      exact hn (h.sep q r ob' ob ri' ri p' p hq' hr h1 hρ h2 hA e)) (h.own r ob ri p hr hρ hA).2
    have hAp : ∀ p', ri.A = some p' → F p'.1 ∨ p'.1 = p.1 := fun p' hp' => by rw [hA] at hp'; cases hp'; exact .inr rfl
    refine ⟨fun b => F b ∨ b = p.1, ri, fun _ h => .inl h, hρ, ho, hAp, ?_, fun b hb => hb.elim .inl (fun e => .inr ⟨p, hA, e.symm⟩)⟩
    refine hf.slots _ _ (fun i x hi => ?_)
    replace hi : (s.frz r ob).get i = some x := hi
    rw [get_frz] at hi
    cases hs : s.get i with
    | none => simp [hs] at hi
    | some y =>
      simp only [hs, Option.map_some, Option.some.injEq] at hi
      subst hi
      obtain ⟨val, h1, h2⟩ := h.slot i y hs
      exact ⟨val, h1, frzTV_law (F' := fun b => F b ∨ b = p.1) hρ ho (fun _ h => .inl h) hAp h2⟩

theorem frz_law (h : RelAt F0 M W0 F ρ s a w) {r : Nat} {ob : OB} (hr : s.obj r = some ob) : ∃ F' ri, (∀ b, F b → F' b) ∧ ρ r = some ri ∧ ORep F w ρ ri ob ∧ (∀ p, ri.A = some p → F' p.1) ∧ RelAt F0 M W0 F' ρ (s.frz r ob) a w := by
  obtain ⟨F', ri, h1, h2, h3, h4, h5, _⟩ := frz_law' h hr
  exact ⟨F', ri, h1, h2, h3, h4, h5⟩

/- - a value that may lie in memory -/
theorem toPure_law (h : RelAt F0 M W0 F ρ s a w) {x y : TV} {s' : St} (hp : toPure s x = some (y, s')) {val : Value} (hx : RepV F (mem w) ρ x.t x.v val) :
    ∃ F', (∀ b, F b → F' b) ∧ RelAt F0 M W0 F' ρ s' a w ∧ y.t.pure = true ∧ RepV1 F' (mem w) ρ y.t y.v val := by
  unfold toPure at hp
  split at hp
  · rename_i hpu
    cases hp
    refine ⟨F, fun _ h => h, h, hpu, RepV1.of hx ?_ ?_⟩
    · cases ht : x.t <;> simp [ht, Ty.pure, isAny] at hpu ⊢
    · intro u e; rw [e] at hpu; simp [Ty.pure] at hpu
  · obtain ⟨t, v⟩ := x
    cases t with
    | ow r =>
      simp only at hp
      cases hob : s.obj r with
      | none => simp [hob] at hp
      | some ob =>
        simp only [hob] at hp
        cases hp
        obtain ⟨F', ri, hF, hρ, ho, hA, h'⟩ := frz_law h hob
        obtain ⟨h1, ri', h2, e⟩ := (hx : RepV1 F (mem w) ρ (.ow r) _ val)
        rw [hρ] at h2; cases h2
        obtain rfl : val = _ := by simpa using e
        exact ⟨F', hF, h', ho.pure, ho.slice hF hA⟩
    | osl r =>
      simp only at hp
      cases hob : s.obj r with
      | none => simp [hob] at hp
      | some ob =>
        simp only [hob] at hp
        cases hp
        obtain ⟨F', ri, hF, hρ, ho, hA, h'⟩ := frz_law h hob
        exact ⟨F', hF, h', ho.pure, ho.part hρ hF hA hx⟩
    | oad r o =>
      simp only at hp
      cases hob : s.obj r with
      | none => simp [hob] at hp
      | some ob =>
        obtain ⟨t, xs⟩ := ob
        match xs, hob with
        | [], hob => simp [hob] at hp
        | [y'], hob =>
          simp only [hob] at hp
          split at hp
          · rename_i h0
            subst h0
            cases hp
            obtain ⟨F', ri, hF, hρ, ho, hA, h'⟩ := frz_law h hob
            obtain ⟨h1, ri', p, h2, h3, e⟩ := (hx : RepV1 F (mem w) ρ (.oad r o) (0 : Int) val)
            rw [hρ] at h2; cases h2
            obtain rfl : val = _ := by simpa using e
            obtain ⟨ds, h4, h5⟩ := ho.cells p h3 0 y' rfl
            exact ⟨F', hF, h', ho.pure, rfl, p, ds, by simp [adr], hA p h3, by simpa using h4, Rep.mono hF (fun _ _ _ _ h => h) (fun _ _ h => h) _ _ _ h5⟩
          · cases hp
        | y1 :: y2 :: r', hob => simp [hob] at hp
    | _ => cases hp

/- - what is asked of an operation that comes to a value -/
def Done (P : Program) (F0 M : Nat → Prop) (W0 : World) (a : Act) (w : World) (id : Nat) (e : Eff R) (sm : Sem Value) : Prop :=
  ∀ v, e.k.c = some v → ∃ val w' F' ρ', sm.run P w = .ok val w' ∧ ∀ d, RelAt F0 M W0 F' ρ' (e.out d id v) (a.put d val) w'

theorem done_one (h : RelAt F0 M W0 F ρ s a w) {T : Ty} {k : Cnd R T.den} {id : Nat} {sm : Sem Value} (hk : ∀ u, k.c = some u → ∃ val, sm.run P w = .ok val w ∧ RepV F (mem w) ρ T u val) :
    Done P F0 M W0 a w id (Eff.one s T k) sm := by
  intro v hv
  simp only [Eff.one, Cnd.map] at hv
  cases hc : k.c with
  | none => rw [hc] at hv; simp at hv
  | some u =>
    rw [hc] at hv
    obtain rfl := Option.some.inj hv
    obtain ⟨val, h1, h2⟩ := hk u hc
    exact ⟨val, w, F, ρ, h1, fun d => h.put d _ _ h2⟩

/- - a new row of cells is laid -/
theorem new_law (h : RelAt F0 M W0 F ρ s a w) {id : Nat} (hf : s.objs[id]? = some .fresh) {t : Ty} {xs : List t.den} {cells : Array Value} {el : TypeId} {c : Nat} (hp : t.pure = true)
    (hc : xs.length ≤ c) (hz : c * t.size ≤ cells.size)
    (hx : ∀ (i : Nat) x, xs[i]? = some x → ∃ ds, (∀ (j : Nat) v, ds[j]? = some v → cells[i * t.size + j]? = some v) ∧ Rep F (mem w) ρ t x ds) :
    RelAt F0 M W0 F (ext ρ id ⟨some (w.heap.size, 0), some (adr (w.heap.size, 0)), xs.length, c, t.size⟩) (s.setObj id (.live ⟨t, xs⟩)) a (w.alloc (.cells cells el)) := by
  have h1 : RelAt F0 M W0 F ρ s a (w.alloc (.cells cells el)) := h.grow (Kept.alloc _ _ _)
  have h2 := h1.ext id ⟨some (w.heap.size, 0), some (adr (w.heap.size, 0)), xs.length, c, t.size⟩ hf
  have hid : id < s.objs.length := by
    rcases Nat.lt_or_ge id s.objs.length with h3 | h3
    · exact h3
    · simp [List.getElem?_eq_none h3] at hf
  have h0 : ρ id = none := h.fresh id (.inr ⟨_, hf, rfl⟩)
  have hold : ∀ b, b < w.heap.size → ∀ j v, mem w b j = some v → mem (w.alloc (.cells cells el)) b j = some v := fun b hb j v hv => by
    rw [mem_of_block (Go.RowKit.Below.heap_alloc w _ b hb)]; exact hv
  have hss : (s.setObj id .dead).setObj id (.live ⟨t, xs⟩) = s.setObj id (.live ⟨t, xs⟩) := by simp [St.setObj]
  rw [← hss]
  have hnew : (w.alloc (.cells cells el)).heap[w.heap.size]? = some (.cells cells el (0, 0)) := by
    show (w.heap.push _)[w.heap.size]? = _
    simp
  refine h2.live id ⟨some (w.heap.size, 0), some (adr (w.heap.size, 0)), xs.length, c, t.size⟩ ⟨t, xs⟩ (by simp [St.setObj, hid]) (by simp [ext]) ⟨rfl, rfl, hc, hp, fun e => (by cases e), .inr rfl, fun p hp => ?_, fun p hp i x hi => ?_⟩ (fun p hp => ⟨?_, ?_, ?_⟩)
  · cases hp
    exact ⟨cells, el, hnew, by simpa using hz⟩
  · cases hp
    obtain ⟨ds, h3, h4⟩ := hx i x hi
    refine ⟨ds, fun j v hj => ?_, Rep.mono (fun _ h => h) (fun b hb => hold b (h.lt b hb)) (ext_le h0) _ _ _ h4⟩
    have := h3 j v hj
    simp only [mem, World.cell?, hnew]
    simpa using this
  · cases hp
    exact fun hb => Nat.lt_irrefl _ (h.lt _ hb)
  · cases hp
    exact .inl h.kept.size
  · cases hp
    intro q ob' ri' p' hq hρ' hp' e
    have hq' : s.obj q = some ob' ∧ q ≠ id := by
      by_cases e : id = q
      · subst e; rw [St.obj_setObj_same hid] at hq; cases hq
      · rw [St.obj_setObj_ne e] at hq; exact ⟨hq, Ne.symm e⟩
    simp only [ext, if_neg hq'.2] at hρ'
    obtain ⟨ri2, h4, h5⟩ := h.obj q ob' hq'.1
    rw [hρ'] at h4; cases h4
    have := h5.blockLt hp'
    omega

theorem done_new (h : RelAt F0 M W0 F ρ s a w) {id : Nat} (hf : s.objs[id]? = some .fresh) {T t : Ty} {k : Cnd R (T.den × List t.den)} {sm : Sem Value} (hp : t.pure = true)
    (hk : ∀ u, k.c = some u → ∃ val w1 cells el c, Kept (fun _ => False) w w1 ∧ sm.run P w = .ok val (w1.alloc (.cells cells el)) ∧ u.2.length ≤ c ∧ c * t.size ≤ cells.size ∧
      (∀ (i : Nat) x, u.2[i]? = some x → ∃ ds, (∀ (j : Nat) v, ds[j]? = some v → cells[i * t.size + j]? = some v) ∧ Rep F (mem w1) ρ t x ds) ∧
      RepV F (mem (w1.alloc (.cells cells el))) (ext ρ id ⟨some (w1.heap.size, 0), some (adr (w1.heap.size, 0)), u.2.length, c, t.size⟩) T u.1 val) :
    Done P F0 M W0 a w id (Eff.new s T t k) sm := by
  intro v hv
  simp only [Eff.new, Cnd.map] at hv
  cases hc : k.c with
  | none => rw [hc] at hv; simp at hv
  | some u =>
    rw [hc] at hv
    obtain rfl := Option.some.inj hv
    obtain ⟨val, w1, cells, el, c, hk1, h1, h2, h3, h4, h5⟩ := hk u hc
    exact ⟨val, _, F, _, h1, fun d => RelAt.put (new_law (h.grow hk1) hf hp h2 h3 h4) d ⟨T, u.1⟩ val h5⟩

end Go.Vs
