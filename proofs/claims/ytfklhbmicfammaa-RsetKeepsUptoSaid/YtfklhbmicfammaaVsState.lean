/- Value semantics, part 3: a state of values, and how it stands to a frame and to memory. -/
import Derived.Test.YtfklhbmicfammaaVsLens
set_option linter.unusedVariables false
namespace Go.Vs
open Go

inductive ObS where
  | fresh | dead | live (o : OB)

/- - the slots: what was written last stands first -/
structure St where
  n : Nat
  slots : List (Nat × TV)
  objs : List ObS

def asc : List (Nat × TV) → Nat → TV
  | [], _ => ⟨.any, ()⟩
  | (k, x) :: r, i => bif Nat.beq k i then x else asc r i
def St.get (s : St) (i : Nat) : Option TV := bif Nat.blt i s.n then some (asc s.slots i) else none

def St.obj (s : St) (r : Nat) : Option OB := match s.objs[r]? with
  | some (.live o) => some o
  | _ => none
def St.put (s : St) (d : Option Nat) (x : TV) : St := match d with
  | some i => ⟨s.n, (i, x) :: s.slots, s.objs⟩
  | none => s
def St.setObj (s : St) (r : Nat) (o : ObS) : St := ⟨s.n, s.slots, s.objs.set r o⟩

theorem St.get_put {s : St} {d i : Nat} {x : TV} : (s.put (some d) x).get i = if d = i then (if i < s.n then some x else none) else s.get i := by
  simp only [St.get, St.put, asc]
  by_cases e : d = i
  · subst e
    have : Nat.beq d d = true := Nat.beq_refl d
    rw [if_pos rfl, this]
    by_cases h : d < s.n
    · have h1 : Nat.blt d s.n = true := by simpa [Nat.blt_eq] using h
      rw [h1, if_pos h]; rfl
    · have h1 : Nat.blt d s.n = false := by
        cases hb : Nat.blt d s.n with
        | false => rfl
        | true => exact absurd (by rw [Nat.blt_eq] at hb; exact hb) h
      rw [h1, if_neg h]; rfl
  · have : Nat.beq d i = false := by
      cases hb : Nat.beq d i with
      | false => rfl
      | true => exact absurd (Nat.eq_of_beq_eq_true hb) e
    rw [if_neg e, this]; rfl
theorem St.get_lt {s : St} {i : Nat} : i < s.n → s.get i = some (asc s.slots i) := fun h => by
  have h1 : Nat.blt i s.n = true := by simpa [Nat.blt_eq] using h
  simp only [St.get, h1]; rfl
theorem St.get_ge {s : St} {i : Nat} (h : ¬ i < s.n) : s.get i = none := by
  have h1 : Nat.blt i s.n = false := by
    cases hb : Nat.blt i s.n with
    | false => rfl
    | true => exact absurd (by rw [Nat.blt_eq] at hb; exact hb) h
  simp only [St.get, h1]; rfl
theorem St.lt_get {s : St} {i : Nat} {x : TV} (h : s.get i = some x) : i < s.n := by
  rcases Nat.lt_or_ge i s.n with h1 | h1
  · exact h1
  · rw [St.get_ge (Nat.not_lt.2 h1)] at h; cases h

structure Kept (M : Nat → Prop) (w w' : World) : Prop where
  os : w'.os = w.os
  tape : w'.tape = w.tape
  output : w'.output = w.output
  size : w.heap.size ≤ w'.heap.size
  block : ∀ k, k < w.heap.size → ¬ M k → w'.heap[k]? = w.heap[k]?
  len : ∀ (k : Nat) (cells : Array Value) (el : TypeId) (fr : Nat × Nat), w.heap[k]? = some (.cells cells el fr) → ∃ cells', w'.heap[k]? = some (.cells cells' el fr) ∧ cells'.size = cells.size

theorem Kept.refl (M : Nat → Prop) (w : World) : Kept M w w := ⟨rfl, rfl, rfl, Nat.le_refl _, fun _ _ _ => rfl, fun _ c _ _ h => ⟨c, h, rfl⟩⟩
theorem Kept.trans {M M' M'' : Nat → Prop} {a b c : World} (h : Kept M a b) (k : Kept M' b c) (h1 : ∀ k, k < a.heap.size → M k → M'' k) (h2 : ∀ k, k < a.heap.size → M' k → M'' k) : Kept M'' a c :=
  ⟨k.os.trans h.os, k.tape.trans h.tape, k.output.trans h.output, Nat.le_trans h.size k.size, fun i hi hn =>
    (k.block i (Nat.lt_of_lt_of_le hi h.size) (fun hm => hn (h2 i hi hm))).trans (h.block i hi (fun hm => hn (h1 i hi hm))),
    fun i c el fr hi => by
      obtain ⟨c1, e1, z1⟩ := h.len i c el fr hi
      obtain ⟨c2, e2, z2⟩ := k.len i c1 el fr e1
      exact ⟨c2, e2, z2.trans z1⟩⟩
theorem Kept.mono {M M' : Nat → Prop} {a b : World} (h : Kept M a b) (h1 : ∀ k, k < a.heap.size → M k → M' k) : Kept M' a b :=
  ⟨h.os, h.tape, h.output, h.size, fun i hi hn => h.block i hi (fun hm => hn (h1 i hi hm)), h.len⟩

theorem mem_of_block {w w' : World} {b : Nat} (h : w'.heap[b]? = w.heap[b]?) (o : Nat) : mem w' b o = mem w b o := by
  unfold mem World.cell?; simp only [h]

theorem mem_lt {w : World} {b o : Nat} {v : Value} (h : mem w b o = some v) : b < w.heap.size := by
  unfold mem World.cell? at h
  rcases Nat.lt_or_ge b w.heap.size with hb | hb
  · exact hb
  · simp [Array.getElem?_eq_none hb] at h

theorem Kept.drew (M : Nat → Prop) (w : World) (n : Nat) : Kept M w { w with drawn := n } := ⟨rfl, rfl, rfl, Nat.le_refl _, fun _ _ _ => rfl, fun _ c _ _ h => ⟨c, h, rfl⟩⟩
theorem Kept.alloc (M : Nat → Prop) (w : World) (o : Obj) : Kept M w { w with heap := w.heap.push o } :=
  ⟨rfl, rfl, rfl, by simp, fun k hk _ => by simp [Array.getElem?_push, Nat.ne_of_lt hk], fun k c el fr hk => ⟨c, by
    have hlt : k < w.heap.size := by
      rcases Nat.lt_or_ge k w.heap.size with h | h
      · exact h
      · rw [Array.getElem?_eq_none h] at hk; cases hk
    simpa [Array.getElem?_push, Nat.ne_of_lt hlt] using hk, rfl⟩⟩

/- - a region's cells -/
structure ORep (F : Nat → Prop) (w : World) (ρ : Nat → Option RI) (ri : RI) (ob : OB) : Prop where
  n : ri.n = ob.xs.length
  sz : ri.sz = ob.t.size
  le : ri.n ≤ ri.c
  pure : ob.t.pure = true
  none : ri.A = none → ri.c = 0
  raw : ri.c = 0 ∨ ri.raw = ri.A.map adr
  block : ∀ p, ri.A = some p → ∃ cells el, w.heap[p.1]? = some (.cells cells el (0, 0)) ∧ p.2 + ri.c * ri.sz ≤ cells.size
  cells : ∀ p, ri.A = some p → ∀ (i : Nat) x, ob.xs[i]? = some x → ∃ ds, CellsAt (mem w) p.1 (p.2 + i * ri.sz) ds ∧ Rep F (mem w) ρ ob.t x ds

structure RelAt (F0 M : Nat → Prop) (W0 : World) (F : Nat → Prop) (ρ : Nat → Option RI) (s : St) (a : Act) (w : World) : Prop where
  defers : a.defers = []
  slot : ∀ (i : Nat) x, s.get i = some x → ∃ val, a.tmps[i]? = some val ∧ RepV F (mem w) ρ x.t x.v val
  obj : ∀ r ob, s.obj r = some ob → ∃ ri, ρ r = some ri ∧ ORep F w ρ ri ob
  sep : ∀ r r' ob ob' ri ri' p p', s.obj r = some ob → s.obj r' = some ob' → ρ r = some ri → ρ r' = some ri' → ri.A = some p → ri'.A = some p' → p.1 = p'.1 → r = r'
  own : ∀ r ob ri p, s.obj r = some ob → ρ r = some ri → ri.A = some p → ¬ F p.1 ∧ (W0.heap.size ≤ p.1 ∨ M p.1)
  fresh : ∀ r, (s.objs[r]? = none ∨ ∃ o, s.objs[r]? = some o ∧ o = .fresh) → ρ r = none
  lt : ∀ b, F b → b < w.heap.size
  base : ∀ b, F0 b → F b
  frm : ∀ b, F b → F0 b ∨ W0.heap.size ≤ b ∨ M b
  kept : Kept M W0 w

variable {F0 M F : Nat → Prop} {W0 w w' : World} {ρ : Nat → Option RI} {s : St} {a : Act}

theorem RelAt.put (h : RelAt F0 M W0 F ρ s a w) (d : Option Nat) (x : TV) (val : Value) (hx : RepV F (mem w) ρ x.t x.v val) : RelAt F0 M W0 F ρ (s.put d x) (a.put d val) w := by
  cases d with
  | none => exact h
  | some d =>
    refine ⟨h.defers, fun i y hy => ?_, h.obj, h.sep, h.own, h.fresh, h.lt, h.base, h.frm, h.kept⟩
    rw [St.get_put] at hy
    simp only [Act.put, Array.getElem?_setIfInBounds]
    split at hy
    · rename_i e
      subst e
      split at hy
      · cases hy
        rename_i hd
        obtain ⟨v0, h0, _⟩ := h.slot d _ (St.get_lt hd)
        have : d < a.tmps.size := by
          rcases Nat.lt_or_ge d a.tmps.size with h1 | h1
          · exact h1
          · simp [Array.getElem?_eq_none h1] at h0
        exact ⟨val, by simp [this], hx⟩
      · cases hy
    · rename_i e
      rw [if_neg e]
      exact h.slot i y hy

theorem St.obj_setObj_same {s : St} {r : Nat} {o : ObS} (hr : r < s.objs.length) : (s.setObj r o).obj r = (match o with | .live x => some x | _ => none) := by
  simp [St.obj, St.setObj, hr]
  cases o <;> rfl
theorem St.obj_setObj_ne {s : St} {r q : Nat} {o : ObS} (hr : r ≠ q) : (s.setObj r o).obj q = s.obj q := by
  simp [St.obj, St.setObj, List.getElem?_set_ne hr]
theorem St.obj_lt {s : St} {r : Nat} {ob : OB} (h : s.obj r = some ob) : r < s.objs.length := by
  unfold St.obj at h
  rcases Nat.lt_or_ge r s.objs.length with h1 | h1
  · exact h1
  · simp [List.getElem?_eq_none h1] at h

/- - a region is given up -/
theorem RelAt.kill (h : RelAt F0 M W0 F ρ s a w) (r : Nat) : RelAt F0 M W0 F ρ (s.setObj r .dead) a w := by
  have key : ∀ q ob, (s.setObj r .dead).obj q = some ob → s.obj q = some ob := fun q ob hq => by
    by_cases e : r = q
    · subst e
      by_cases hr : r < s.objs.length
      · rw [St.obj_setObj_same hr] at hq; cases hq
      · have := St.obj_lt hq; simp [St.setObj] at this; exact absurd this hr
    · rwa [St.obj_setObj_ne e] at hq
  refine ⟨h.defers, h.slot, fun q ob hq => h.obj q ob (key _ _ hq), fun q q' ob ob' ri ri' p p' hq hq' => h.sep q q' ob ob' ri ri' p p' (key _ _ hq) (key _ _ hq'), fun q ob ri p hq => h.own q ob ri p (key _ _ hq), fun q hq => ?_, h.lt, h.base, h.frm, h.kept⟩
  refine h.fresh q ?_
  rcases hq with hq | ⟨o, hq, ho⟩
  · left; simpa [St.setObj] using hq
  · right
    simp only [St.setObj, List.getElem?_set] at hq
    split at hq
    · split at hq
      · cases hq; cases ho
      · cases hq
    · exact ⟨o, hq, ho⟩

/- - memory turns, at places that no region of the state has -/
theorem RelAt.world (h : RelAt F0 M W0 F ρ s a w) (M' : Nat → Prop) (hk : Kept M' w w')
    (hM : ∀ b, M' b → ¬ F b ∧ (∀ r ob ri p, s.obj r = some ob → ρ r = some ri → ri.A = some p → p.1 ≠ b) ∧ (b < W0.heap.size → M b)) : RelAt F0 M W0 F ρ s a w' := by
  have hF : ∀ b, F b → ∀ j v, mem w b j = some v → mem w' b j = some v := fun b hb j v hv => by
    rw [mem_of_block (hk.block b (h.lt b hb) (fun hm => (hM b hm).1 hb))]; exact hv
  refine ⟨h.defers, fun i x hi => ?_, fun r ob hr => ?_, h.sep, h.own, h.fresh, fun b hb => Nat.lt_of_lt_of_le (h.lt b hb) hk.size, h.base, h.frm, ?_⟩
  · obtain ⟨val, h1, h2⟩ := h.slot i x hi
    exact ⟨val, h1, RepV.mono (fun _ h => h) hF (fun _ _ h => h) _ _ _ h2⟩
  · obtain ⟨ri, h1, h2⟩ := h.obj r ob hr
    have hb : ∀ p, ri.A = some p → w'.heap[p.1]? = w.heap[p.1]? := fun p hp => by
      obtain ⟨cells, el, h3, _⟩ := h2.block p hp
      have : p.1 < w.heap.size := by
        rcases Nat.lt_or_ge p.1 w.heap.size with h4 | h4
        · exact h4
        · simp [Array.getElem?_eq_none h4] at h3
      exact hk.block _ this (fun hm => (hM _ hm).2.1 r ob ri p hr h1 hp rfl)
    refine ⟨ri, h1, h2.n, h2.sz, h2.le, h2.pure, h2.none, h2.raw, fun p hp => ?_, fun p hp i x hi => ?_⟩
    · obtain ⟨cells, el, h3, h4⟩ := h2.block p hp
      exact ⟨cells, el, (hb p hp).trans h3, h4⟩
    · obtain ⟨ds, h3, h4⟩ := h2.cells p hp i x hi
      exact ⟨ds, h3.mono (fun j v hv => by rw [mem_of_block (hb p hp)]; exact hv), Rep.mono (fun _ h => h) hF (fun _ _ h => h) _ _ _ h4⟩
  · exact h.kept.trans hk (fun _ _ hm => hm) (fun k hk hm => (hM k hm).2.2 hk)

/- - where nothing old turns -/
theorem RelAt.grow (h : RelAt F0 M W0 F ρ s a w) (hk : Kept (fun _ => False) w w') : RelAt F0 M W0 F ρ s a w' :=
  h.world _ hk (fun _ h => h.elim)

/- - a region that the state gave up is one of its own again -/
theorem RelAt.live (h : RelAt F0 M W0 F ρ s a w) (r : Nat) (ri : RI) (ob : OB) (hl : s.objs[r]? = some .dead) (hρ : ρ r = some ri) (ho : ORep F w ρ ri ob)
    (hs : ∀ p, ri.A = some p → ¬ F p.1 ∧ (W0.heap.size ≤ p.1 ∨ M p.1) ∧ ∀ q ob' ri' p', s.obj q = some ob' → ρ q = some ri' → ri'.A = some p' → p.1 ≠ p'.1) :
    RelAt F0 M W0 F ρ (s.setObj r (.live ob)) a w := by
  have hr : r < s.objs.length := by
    rcases Nat.lt_or_ge r s.objs.length with h1 | h1
    · exact h1
    · simp [List.getElem?_eq_none h1] at hl
  have hr0 : s.obj r = none := by simp [St.obj, hl]
  have key : ∀ q ob', (s.setObj r (.live ob)).obj q = some ob' → (q = r ∧ ob' = ob) ∨ (q ≠ r ∧ s.obj q = some ob') := fun q ob' hq => by
    by_cases e : r = q
    · subst e
      rw [St.obj_setObj_same hr] at hq
      cases hq; exact .inl ⟨rfl, rfl⟩
    · rw [St.obj_setObj_ne e] at hq
      exact .inr ⟨Ne.symm e, hq⟩
  refine ⟨h.defers, h.slot, fun q ob' hq => ?_, fun q q' ob1 ob2 ri1 ri2 p p' hq hq' h1 h2 hp hp' he => ?_, fun q ob' ri' p hq h1 hp => ?_, fun q hq => ?_, h.lt, h.base, h.frm, h.kept⟩
  · rcases key q ob' hq with ⟨rfl, rfl⟩ | ⟨_, hq⟩
    · exact ⟨ri, hρ, ho⟩
    · exact h.obj q ob' hq
  · rcases key q ob1 hq with ⟨e1, _⟩ | ⟨hn, kq⟩ <;> rcases key q' ob2 hq' with ⟨e2, _⟩ | ⟨hn', kq'⟩
    · rw [e1, e2]
    · subst e1; rw [hρ] at h1; cases h1
      exact absurd he ((hs p hp).2.2 q' ob2 ri2 p' kq' h2 hp')
    · subst e2; rw [hρ] at h2; cases h2
      exact absurd he.symm ((hs p' hp').2.2 q ob1 ri1 p kq h1 hp)
    · exact h.sep q q' ob1 ob2 ri1 ri2 p p' kq kq' h1 h2 hp hp' he
  · rcases key q ob' hq with ⟨rfl, rfl⟩ | ⟨hn, hq⟩
    · rw [hρ] at h1; cases h1
      exact ⟨(hs p hp).1, (hs p hp).2.1⟩
    · exact h.own q ob' ri' p hq h1 hp
  · refine h.fresh q ?_
    rcases hq with hq | ⟨o, hq, ho⟩
    · left; simpa [St.setObj] using hq
    · right
      subst ho
      by_cases e : r = q
      · subst e; simp [St.setObj, hr] at hq
      · simp only [St.setObj, List.getElem?_set_ne e] at hq
        exact ⟨_, hq, rfl⟩

def ext (ρ : Nat → Option RI) (r : Nat) (ri : RI) : Nat → Option RI := fun q => if q = r then some ri else ρ q

theorem ext_le {r : Nat} {ri : RI} (h0 : ρ r = none) : ∀ q x, ρ q = some x → ext ρ r ri q = some x := fun q x hq => by
  unfold ext
  split
  · rename_i e; subst e; rw [h0] at hq; cases hq
  · exact hq

theorem ORep.mono {F' : Nat → Prop} {ρ' : Nat → Option RI} {ri : RI} {ob : OB} (h : ORep F w ρ ri ob) (hF : ∀ b, F b → F' b) (hρ : ∀ q x, ρ q = some x → ρ' q = some x) : ORep F' w ρ' ri ob :=
  ⟨h.n, h.sz, h.le, h.pure, h.none, h.raw, h.block, fun p hp i x hi => by
    obtain ⟨ds, h1, h2⟩ := h.cells p hp i x hi
    exact ⟨ds, h1, Rep.mono hF (fun _ _ _ _ h => h) hρ _ _ _ h2⟩⟩

/- - a fresh number is given to a place -/
theorem RelAt.ext (h : RelAt F0 M W0 F ρ s a w) (r : Nat) (ri : RI) (hf : s.objs[r]? = some .fresh) : RelAt F0 M W0 F (ext ρ r ri) (s.setObj r .dead) a w := by
  have h0 : ρ r = none := h.fresh r (.inr ⟨_, hf, rfl⟩)
  have hle := ext_le (ri := ri) h0
  have h' := h.kill r
  have hne : ∀ q ob, s.obj q = some ob → q ≠ r := fun q ob hq e => by subst e; simp [St.obj, hf] at hq
  have hr : r < s.objs.length := by
    rcases Nat.lt_or_ge r s.objs.length with h1 | h1
    · exact h1
    · simp [List.getElem?_eq_none h1] at hf
  have key : ∀ q ob', (s.setObj r .dead).obj q = some ob' → q ≠ r := fun q ob' hq e => by
    subst e; rw [St.obj_setObj_same hr] at hq; cases hq
  have heq : ∀ q, q ≠ r → Vs.ext ρ r ri q = ρ q := fun q hq => by unfold Vs.ext; rw [if_neg hq]
  refine ⟨h'.defers, fun i x hi => ?_, fun q ob hq => ?_, fun q q' ob1 ob2 ri1 ri2 p p' hq hq' h1 h2 => ?_, fun q ob ri' p hq h1 => ?_, fun q hq => ?_, h'.lt, h'.base, h'.frm, h'.kept⟩
  · obtain ⟨val, h1, h2⟩ := h'.slot i x hi
    exact ⟨val, h1, RepV.mono (fun _ h => h) (fun _ _ _ _ h => h) hle _ _ _ h2⟩
  · obtain ⟨ri', h1, h2⟩ := h'.obj q ob hq
    exact ⟨ri', hle _ _ h1, h2.mono (fun _ h => h) hle⟩
  · rw [heq q (key q _ hq)] at h1
    rw [heq q' (key q' _ hq')] at h2
    exact h'.sep q q' ob1 ob2 ri1 ri2 p p' hq hq' h1 h2
  · rw [heq q (key q _ hq)] at h1
    exact h'.own q ob ri' p hq h1
  · have hqr : q ≠ r := fun e => by
      subst e
      rcases hq with hq | ⟨o, hq, ho⟩
      · simp [St.setObj, hr] at hq
      · simp [St.setObj, hr] at hq; subst hq; cases ho
    rw [heq q hqr]
    exact h'.fresh q hq

/- - a block that no region of the state has is held as it is from now on -/
theorem RelAt.frz (h : RelAt F0 M W0 F ρ s a w) (b : Nat) (hb : b < w.heap.size) (hs : ∀ r ob ri p, s.obj r = some ob → ρ r = some ri → ri.A = some p → p.1 ≠ b) (hf : W0.heap.size ≤ b ∨ M b) :
    RelAt F0 M W0 (fun k => F k ∨ k = b) ρ s a w := by
  refine ⟨h.defers, fun i x hi => ?_, fun r ob hr => ?_, h.sep, fun r ob ri p hr h1 hp => ?_, h.fresh, fun k hk => ?_, fun k hk => .inl (h.base k hk), fun k hk => ?_, h.kept⟩
  · obtain ⟨val, h1, h2⟩ := h.slot i x hi
    exact ⟨val, h1, RepV.mono (fun _ h => .inl h) (fun _ _ _ _ h => h) (fun _ _ h => h) _ _ _ h2⟩
  · obtain ⟨ri, h1, h2⟩ := h.obj r ob hr
    exact ⟨ri, h1, h2.mono (fun _ h => .inl h) (fun _ _ h => h)⟩
  · obtain ⟨h2, h3⟩ := h.own r ob ri p hr h1 hp
    exact ⟨fun hk => hk.elim h2 (fun e => hs r ob ri p hr h1 hp e), h3⟩
  · rcases hk with hk | rfl
    · exact h.lt k hk
    · exact hb
  · rcases hk with hk | rfl
    · exact h.frm k hk
    · exact .inr hf

/- - room for new regions -/
def St.room (s : St) (n : Nat) : St := ⟨s.n, s.slots, s.objs ++ List.replicate n .fresh⟩

theorem St.objs_room {s : St} {n q : Nat} {o : OB} (h : (s.room n).objs[q]? = some (.live o)) : s.objs[q]? = some (.live o) := by
  simp only [St.room, List.getElem?_append] at h
  split at h
  · exact h
  · rw [List.getElem?_replicate] at h
    split at h <;> cases h

theorem St.obj_iff {s : St} {q : Nat} {o : OB} : s.obj q = some o ↔ s.objs[q]? = some (.live o) := by
  unfold St.obj
  constructor
  · intro h
    split at h
    · cases h; assumption
    · cases h
  · intro h; simp [h]

theorem RelAt.room (h : RelAt F0 M W0 F ρ s a w) (n : Nat) : RelAt F0 M W0 F ρ (s.room n) a w := by
  have key : ∀ q ob', (s.room n).obj q = some ob' → s.obj q = some ob' := fun q ob' hq => St.obj_iff.2 (St.objs_room (St.obj_iff.1 hq))
  refine ⟨h.defers, h.slot, fun q ob hq => h.obj q ob (key _ _ hq), fun q q' ob ob' ri ri' p p' hq hq' => h.sep q q' ob ob' ri ri' p p' (key _ _ hq) (key _ _ hq'), fun q ob ri p hq => h.own q ob ri p (key _ _ hq), fun q hq => ?_, h.lt, h.base, h.frm, h.kept⟩
  refine h.fresh q ?_
  rcases Nat.lt_or_ge q s.objs.length with e | e
  · rcases hq with hq | ⟨o, hq, ho⟩
    · simp [St.room, List.getElem?_append, e] at hq
    · right
      refine ⟨o, ?_, ho⟩
      simpa [St.room, List.getElem?_append, e] using hq
  · exact .inl (List.getElem?_eq_none e)

end Go.Vs
