/- Value semantics, part 26: a function keeps what its values' function promises. -/
import Derived.Test.YtaeobljnmfbdmaaVuCanon
set_option linter.unusedVariables false
namespace Go.Vu
open Go
variable {P : Program} {tb : Tab} {Γ : Nat → List Ctr} {F0 : Bs} {M F F' : Nat → Prop} {W0 w w' : World} {ρ ρ' : RK → Option RI} {s s' : St} {a : Act}
def inSlots : (ps : List PM) → PDen ps → Nat → Nat → List (Nat × TV)
 | [], _, _, _ => []
 | .ro t :: ps, v, k, i => (i, ⟨t, v.1⟩) :: inSlots ps v.2 k (i + 1)
 | .mu t :: ps, v, k, i => (i, ⟨opnT t k, opnV t v.1 k⟩) :: inSlots ps v.2 (k + cnt t) (i + 1)
 | .own t :: ps, v, k, i => (i, ⟨opnT t k, opnV t v.1 k⟩) :: inSlots ps v.2 (k + cnt t) (i + 1)
 | .ownp _ t :: ps, v, k, i => (i, ⟨opnT t k, opnV t v.1.2 k⟩) :: inSlots ps v.2 (k + cnt t) (i + 1)
def inConts : (ps : List PM) → PDen ps → Nat → List Cont
 | [], _, _ => []
 | .ro t :: ps, v, k => inConts ps v.2 k
 | .mu t :: ps, v, k => opnC t v.1 k ++ inConts ps v.2 (k + cnt t)
 | .own t :: ps, v, k => opnC t v.1 k ++ inConts ps v.2 (k + cnt t)
 | .ownp _ t :: ps, v, k => opnC t v.1.2 k ++ inConts ps v.2 (k + cnt t)
def cntP : List PM → Nat
 | [] => 0
 | .ro _ :: ps => cntP ps
 | .mu t :: ps => cnt t + cntP ps
 | .own t :: ps => cnt t + cntP ps
 | .ownp _ t :: ps => cnt t + cntP ps
def inPd : List PM → List (Nat × Ty)
 | [] => []
 | .ro _ :: ps => inPd ps
 | .mu _ :: ps => inPd ps
 | .own _ :: ps => inPd ps
 | .ownp qs _ :: _ => qs
def inPv : (ps : List PM) → PDen ps → PlDen (inPd ps)
 | [], _ => ()
 | .ro _ :: ps, v => inPv ps v.2
 | .mu _ :: ps, v => inPv ps v.2
 | .own _ :: ps, v => inPv ps v.2
 | .ownp _ _ :: _, v => v.1.1
def newP (lp : List (Nat × Ty)) : List (Nat × PL) := lp.map fun q => (q.1, ⟨q.2, []⟩)
def offP (lp : List (Nat × Ty)) (t : Ty) : Bool := t.pls.all fun p => !(inPl p lp)
def PM.off (lp : List (Nat × Ty)) : PM → Bool
 | .ro t => offP lp t
 | .mu t => offP lp t
 | .own t => offP lp t
 | .ownp qs t => offP lp t && qs.all fun q => offP lp q.2
def noPd : List PM → Bool
 | [] => true
 | .ownp _ _ :: _ => false
 | .ro _ :: ps => noPd ps
 | .mu _ :: ps => noPd ps
 | .own _ :: ps => noPd ps
def onePd : List PM → Bool
 | [] => true
 | .ownp _ _ :: ps => noPd ps
 | .ro _ :: ps => onePd ps
 | .mu _ :: ps => onePd ps
 | .own _ :: ps => onePd ps
def plsIn (lp : List (Nat × Ty)) (ps : List PM) : Bool := ps.all (PM.off lp) && onePd ps && (inPd ps).all fun q => !(inPl q.1 lp)
def regsOf : List PM → List RI → List RI
 | [], _ => []
 | .ro _ :: ps, ris => regsOf ps ris
 | .mu t :: ps, ris => ris.take (cnt t) ++ regsOf ps (ris.drop (cnt t))
 | .own t :: ps, ris => ris.take (cnt t) ++ regsOf ps (ris.drop (cnt t))
 | .ownp _ t :: ps, ris => ris.take (cnt t) ++ regsOf ps (ris.drop (cnt t + 1))
theorem fuelN_ex : ∃ n : Nat, 9223372036854775808 ≤ n := ⟨_, Nat.le_refl _⟩
noncomputable def fuelN : Nat := Classical.choose fuelN_ex
theorem fuelN_le : 9223372036854775808 ≤ fuelN := Classical.choose_spec fuelN_ex
def initSt (n : Nat) (lp : List (Nat × Ty)) (ps : List PM) (v : PDen ps) : St := ⟨n, inSlots ps v 0 0, cntP ps, numb 0 (inConts ps v 0), unP (inPd ps) (inPv ps v) ++ newP lp⟩
def outSl : List RM → List Nat → List (Nat × Ty)
 | .val t :: rs, i :: is => (i, t) :: outSl rs is
 | .own t :: rs, i :: is => (i, t) :: outSl rs is
 | .ownp _ t :: rs, i :: is => (i, t) :: outSl rs is
 | _, _ => []
def mutSl (rs : List RM) (is : List Nat) : List PM → Nat → List (Nat × Ty)
 | [], _ => outSl rs is
 | .mu t :: _, i => (i, t) :: outSl rs is
 | .ro _ :: ps, i => mutSl rs is ps (i + 1)
 | .own _ :: ps, i => mutSl rs is ps (i + 1)
 | .ownp _ _ :: ps, i => mutSl rs is ps (i + 1)
def nilU {ps : List (Nat × Ty)} (h : ps = []) : PlDen ps := h ▸ ()
def readR : (rs : List RM) → PlDen (rPls rs) → (is : List Nat) → SDen (outSl rs is) → Option (RDen rs)
 | [], _, [], _ => some ()
 | .val t :: rs, u, i :: is, v => match readR rs u is v.2 with
  | some l => some (v.1, l)
  | none => none
 | .own t :: rs, _, i :: is, v => if h : rPls rs = [] then (match readR rs (nilU h) is v.2 with
  | some l => some (v.1, l)
  | none => none) else none
 | .ownp ps t :: rs, u, i :: is, v => if h : rPls rs = [] then (match readR rs (nilU h) is v.2 with
  | some l => some (cnP ps t u v.1, l)
  | none => none) else none
 | _, _, _, _ => none
def readM (rs : List RM) (is : List Nat) : (ps : List PM) → (i : Nat) → SDen (mutSl rs is ps i) → ODen (mutTy ps) × SDen (outSl rs is)
 | [], _, v => ((), v)
 | .mu t :: _, _, v => (v.1, v.2)
 | .ro _ :: ps, i, v => readM rs is ps (i + 1) v
 | .own _ :: ps, i, v => readM rs is ps (i + 1) v
 | .ownp _ _ :: ps, i, v => readM rs is ps (i + 1) v
def funK (n : Nat) (ps : List PM) (rs : List RM) (is : List Nat) : EK → St → Option (ODen (mutTy ps) × RDen rs)
 | .exit _, _ => none
 | _, s => match pack n s ⟨mutSl rs is ps 0, [], rPls rs⟩ with
  | some x => match readR rs (xP (rPls rs) x) is (readM rs is ps 0 (xS (rPls rs) x)).2 with
    | some r => some ((readM rs is ps 0 (xS (rPls rs) x)).1, r)
    | none => none
  | none => none
def loadC (tb : Tab) : List (Nat × Nat) → St → Option St
 | [], s => some s
 | (b, t) :: r, s => match s.get b, tb.get t with
  | some ⟨.pad q o, _⟩, some i => match s.bx q with
   | some y => match comp y.t o i.sz i.agg with
    | some l => loadC tb r ⟨s.n + 1, (s.n, ⟨l.t, l.g y.v⟩) :: s.slots, s.nx, s.objs, s.pls⟩
    | none => none
   | none => none
  | _, _ => none
def resVar (n : Nat) (cells : List (Nat × Nat)) (i : Nat) : ResultVar := match Nat.ble n i, cells[i - n]? with
 | true, some (b, t) => .cell b t
 | _, _ => .tmp i
noncomputable def semF (tb : Tab) (Γ : Nat → List Ctr) (H : Nat → Option LH) (fuel n : Nat) (body : Code) (lp : List (Nat × Ty)) (ps : List PM) (rs : List RM) (is : List Nat) (cells : List (Nat × Nat)) (v : PDen ps) : Option (ODen (mutTy ps) × RDen rs) :=
 sem tb Γ H fuel n body (initSt n lp ps v) fun e s => match loadC tb cells s with
  | some s' => funK (n + cells.length) ps rs is e s'
  | none => none
def zeroA (r : RI) : RI := ⟨if r.c = 0 then none else r.A, r.raw, r.n, r.c, r.sz, r.sub⟩
theorem zeroA_A {r : RI} {p : Nat × Nat} (h : (zeroA r).A = some p) : r.A = some p ∧ r.c ≠ 0 := by
 simp only [zeroA] at h
 split at h
 ·cases h
 ·exact ⟨h, by assumption⟩
theorem ORep.zero {ri : RI} {ob : OB} (h : ORep F w ρ ri ob) : ORep F w ρ (zeroA ri) ob := by
 refine ⟨h.n, h.sz, h.le, h.pure, fun hA => ?_, ?_, fun p hA => h.block p (zeroA_A hA).1, fun p hA => h.cells p (zeroA_A hA).1, h.sub⟩
 ·simp only [zeroA] at hA ⊢
  split at hA
  ·assumption
  ·exact h.none hA
 ·simp only [zeroA]
  split
  ·left; assumption
  ·exact h.raw
theorem zeroA_blk {ri : RI} (hs : ri.c = 0 → ri.sub = []) {b : Nat} (h : (zeroA ri).blk b) : ri.blk b ∧ ri.c ≠ 0 := by
 rcases h with ⟨p, hp, rfl⟩ | h
 ·obtain ⟨h1, h2⟩ := zeroA_A hp
  exact ⟨RI.blkA h1, h2⟩
 ·have h : b ∈ ri.sub := h
  exact ⟨.inr h, fun hc => by rw [hs hc] at h; cases h⟩
theorem TRep.zero : ∀ (t : Ty) (v : t.den) (cs : List Value) (ris : List RI), TRep F w ρ t v cs ris → TRep F w ρ t v cs (ris.map zeroA) ∧ ∀ ri ∈ ris, ri.c = 0 → ri.sub = []
 | .vec t, xs, cs, ris, ⟨ri, e1, e2, ho⟩ => by
  subst e1
  exact ⟨⟨zeroA ri, rfl, e2, ho.zero⟩, fun r hr => by simp only [List.mem_singleton] at hr; subst hr; exact fun _ => ho.sub⟩
 | .iter, v, cs, ris, ⟨ri, e1, e2, ho⟩ => by
  subst e1
  have hc : ¬ ri.c = 0 := by rw [ho.bare.2]; decide
  have hz : zeroA ri = ri := by simp only [zeroA, if_neg hc]
  exact ⟨⟨ri, by simp [hz], e2, ho⟩, fun r hr => by simp only [List.mem_singleton] at hr; subst hr; exact fun _ => ho.bare.1⟩
 | .mpc k t, v, cs, ris, ⟨ri, e1, e2, ho⟩ => by
  subst e1
  have hz : zeroA ri = ri := by simp only [zeroA, if_neg (show ¬ ri.c = 0 by rw [ho.bare.2]; decide)]
  exact ⟨⟨ri, by simp [hz], e2, ho⟩, fun r hr => by simp only [List.mem_singleton] at hr; subst hr; exact fun _ => ho.bare.1⟩
 | .mit k t, v, cs, ris, ⟨ri, e1, e2, ho⟩ => by
  subst e1
  have hz : zeroA ri = ri := by simp only [zeroA, if_neg (show ¬ ri.c = 0 by rw [ho.one]; decide)]
  exact ⟨⟨ri, by simp [hz], e2, ho⟩, fun r hr => by simp only [List.mem_singleton] at hr; subst hr; exact fun hc => by rw [ho.one] at hc; cases hc⟩
 | .bx t, v, cs, ris, ⟨ri, rs, p, ds, cells, el, e1, e2, hA, hs, h3, h4, h5, h6⟩ => by
  subst e1
  obtain ⟨g1, g2⟩ := TRep.zero t v ds rs h6
  refine ⟨⟨zeroA ri, rs.map zeroA, p, ds, cells, el, rfl, e2, by simp only [zeroA]; rw [if_neg (by rw [hs.2]; decide)]; exact hA, hs, h3, h4, h5, g1⟩, fun r hr => ?_⟩
  rcases List.mem_cons.1 hr with rfl | hr
  ·exact fun _ => hs.1
  ·exact g2 r hr
 | .st t, v, cs, ris, h => TRep.zero t v cs ris h
 | .pair a b, v, cs, ris, ⟨c1, c2, r1, r2, e1, e2, h1, h2⟩ => by
  subst e2
  obtain ⟨g1, g2⟩ := TRep.zero a _ _ _ h1
  obtain ⟨g3, g4⟩ := TRep.zero b _ _ _ h2
  exact ⟨⟨c1, c2, _, _, e1, by simp, g1, g3⟩, fun r hr => (List.mem_append.1 hr).elim (g2 r) (g4 r)⟩
 | .int _, v, cs, ris, ⟨e, h⟩ => by subst e; exact ⟨⟨rfl, h⟩, fun r hr => by cases hr⟩
 | .bool, v, cs, ris, ⟨e, h⟩ => by subst e; exact ⟨⟨rfl, h⟩, fun r hr => by cases hr⟩
 | .str, v, cs, ris, ⟨e, h⟩ => by subst e; exact ⟨⟨rfl, h⟩, fun r hr => by cases hr⟩
 | .unit, v, cs, ris, ⟨e, h⟩ => by subst e; exact ⟨⟨rfl, h⟩, fun r hr => by cases hr⟩
 | .slice _, v, cs, ris, ⟨e, h⟩ => by subst e; exact ⟨⟨rfl, h⟩, fun r hr => by cases hr⟩
 | .sln _, v, cs, ris, ⟨e, h⟩ => by subst e; exact ⟨⟨rfl, h⟩, fun r hr => by cases hr⟩
 | .ptr _, v, cs, ris, ⟨e, h⟩ => by subst e; exact ⟨⟨rfl, h⟩, fun r hr => by cases hr⟩
 | .rad _ _, v, cs, ris, ⟨e, h⟩ => by subst e; exact ⟨⟨rfl, h⟩, fun r hr => by cases hr⟩
 | .ow _, v, cs, ris, ⟨e, h⟩ => by subst e; exact ⟨⟨rfl, h⟩, fun r hr => by cases hr⟩
 | .osl _, v, cs, ris, ⟨e, h⟩ => by subst e; exact ⟨⟨rfl, h⟩, fun r hr => by cases hr⟩
 | .oad _ _, v, cs, ris, ⟨e, h⟩ => by subst e; exact ⟨⟨rfl, h⟩, fun r hr => by cases hr⟩
 | .clo _ _, v, cs, ris, ⟨e, h⟩ => by subst e; exact ⟨⟨rfl, h⟩, fun r hr => by cases hr⟩
 | .tup _, v, cs, ris, ⟨e, h⟩ => by subst e; exact ⟨⟨rfl, h⟩, fun r hr => by cases hr⟩
 | .nils, v, cs, ris, ⟨e, h⟩ => by subst e; exact ⟨⟨rfl, h⟩, fun r hr => by cases hr⟩
 | .nilp, v, cs, ris, ⟨e, h⟩ => by subst e; exact ⟨⟨rfl, h⟩, fun r hr => by cases hr⟩
 | .lost, v, cs, ris, ⟨e, h⟩ => by subst e; exact ⟨⟨rfl, h⟩, fun r hr => by cases hr⟩
 | .any, v, cs, ris, ⟨e, h⟩ => by subst e; exact ⟨⟨rfl, h⟩, fun r hr => by cases hr⟩
 | .nxt _ _, v, cs, ris, ⟨e, h⟩ => by subst e; exact ⟨⟨rfl, h⟩, fun r hr => by cases hr⟩
 | .psl _, v, cs, ris, ⟨e, h⟩ => by subst e; exact ⟨⟨rfl, h⟩, fun r hr => by cases hr⟩
 | .pdd _ _, v, cs, ris, ⟨e, h⟩ => by subst e; exact ⟨⟨rfl, h⟩, fun r hr => by cases hr⟩
 | .pad _ _, v, cs, ris, ⟨e, h⟩ => by subst e; exact ⟨⟨rfl, h⟩, fun r hr => by cases hr⟩
 | .mpv _, v, cs, ris, ⟨e, h⟩ => by subst e; exact ⟨⟨rfl, h⟩, fun r hr => by cases hr⟩
 | .fmp _ _, v, cs, ris, ⟨e, h⟩ => by subst e; exact ⟨⟨rfl, h⟩, fun r hr => by cases hr⟩
theorem TRepV.zero {t : Ty} {v : t.den} {x : Value} {ris : List RI} (h : TRepV F w ρ t v x ris) : TRepV F w ρ t v x (ris.map zeroA) ∧ ∀ ri ∈ ris, ri.c = 0 → ri.sub = [] := by
 unfold TRepV at *
 split at h
 ·rename_i hs
  obtain ⟨cs, e, h⟩ := h
  obtain ⟨g1, g2⟩ := TRep.zero _ _ _ _ h
  exact ⟨by rw [if_pos hs]; exact ⟨cs, e, g1⟩, g2⟩
 ·rename_i hs
  obtain ⟨g1, g2⟩ := TRep.zero _ _ _ _ h.2
  exact ⟨by rw [if_neg hs]; exact ⟨h.1, g1⟩, g2⟩
theorem TRepV.len {t : Ty} {v : t.den} {x : Value} {ris : List RI} (h : TRepV F w ρ t v x ris) : ris.length = cnt t := by
 obtain ⟨_, cs, g2⟩ := opn_V1 (ρ := rix ρ ris) (ρp := ρ) (k := 0) (fun _ _ _ h => h) h (fun j ri hj => by simpa [rix] using hj)
 exact g2.len
def inH (lp : List (Nat × Ty)) (ρ : RK → Option RI) : RK → Option RI
 | .reg _ => none
 | .pl p i => if inPl p lp = true then none else ρ (.pl p i)
theorem inH_off {lp : List (Nat × Ty)} {t : Ty} (h : offP lp t = true) : ∀ p ∈ t.pls, ∀ i x, plR ρ (.pl p i) = some x → inH lp ρ (.pl p i) = some x := fun p hp i x hx => by
 have := List.all_eq_true.1 h p hp
 simp only [Bool.not_eq_true'] at this
 simp only [inH, this, Bool.false_eq_true, if_false]
 exact hx
structure In (F : Nat → Prop) (w : World) (ρn : RK → Option RI) (all : List RI) (ps : List PM) (v : PDen ps) (args : List Value) (ris : List RI) (k q : Nat) : Prop where
 len : (inConts ps v k).length = ris.length
 slots : ∀ (i : Nat), asc (inSlots ps v k q) i = ⟨.any, ()⟩ ∨ ∃ val, q ≤ i ∧ args[i - q]? = some val ∧ RepV F (mem w) (rix ρn (all.map zeroA)) (asc (inSlots ps v k q) i).t (asc (inSlots ps v k q) i).v val
 conts : ∀ (j : Nat) c, (inConts ps v k)[j]? = some c → ∃ ri, ris[j]? = some ri ∧ CRep F w (rix ρn (all.map zeroA)) (zeroA ri) c
 bare : ∀ ri ∈ ris, ri.c = 0 → ri.sub = []
theorem in_step {ρn : RK → Option RI} {all : List RI} {ps : List PM} {t : Ty} {v : t.den} {u : PDen ps} {x : Value} {args : List Value} {r1 r2 pre : List RI} {q : Nat} (hpn : ∀ p ∈ t.pls, ∀ i x, ρ (.pl p i) = some x → ρn (.pl p i) = some x) (hall : all = pre ++ (r1 ++ r2)) (hx : TRepV F w ρ t v x r1) (ih : In F w ρn all ps u args r2 (pre.length + cnt t) (q + 1)) :
  (opnC t v pre.length ++ inConts ps u (pre.length + cnt t)).length = (r1 ++ r2).length ∧
   (∀ i : Nat, asc ((q, ⟨opnT t pre.length, opnV t v pre.length⟩) :: inSlots ps u (pre.length + cnt t) (q + 1)) i = ⟨.any, ()⟩ ∨ ∃ val, q ≤ i ∧ (x :: args)[i - q]? = some val ∧ RepV F (mem w) (rix ρn (all.map zeroA)) (asc ((q, ⟨opnT t pre.length, opnV t v pre.length⟩) :: inSlots ps u (pre.length + cnt t) (q + 1)) i).t (asc ((q, ⟨opnT t pre.length, opnV t v pre.length⟩) :: inSlots ps u (pre.length + cnt t) (q + 1)) i).v val) ∧
   (∀ (j : Nat) c, (opnC t v pre.length ++ inConts ps u (pre.length + cnt t))[j]? = some c → ∃ ri, (r1 ++ r2)[j]? = some ri ∧ CRep F w (rix ρn (all.map zeroA)) (zeroA ri) c) ∧ ∀ ri ∈ r1 ++ r2, ri.c = 0 → ri.sub = [] := by
 obtain ⟨hz, hb⟩ := hx.zero
 obtain ⟨g1, cs, g2⟩ := opn_V1 (ρ := rix ρn (all.map zeroA)) (ρp := ρn) (k := pre.length) (fun _ _ _ h => h) (hz.holdP hpn) (fun j ri hj => by
  have hlt : j < r1.length := by
   rcases Nat.lt_or_ge j r1.length with h1 | h1
   ·exact h1
   ·rw [List.getElem?_eq_none (by simpa using h1)] at hj; cases hj
  show (all.map zeroA)[pre.length + j]? = _
  rw [hall, List.map_append, List.getElem?_append_right (by simp), List.map_append, List.length_map, Nat.add_sub_cancel_left, List.getElem?_append_left (by simpa using hlt)]; exact hj)
 have hlen : r1.length = cnt t := by have := g2.len; simpa using this
 refine ⟨by simp [opnC_length, hlen, ih.len], fun i => ?_, fun j c hj => ?_, fun ri hr => (List.mem_append.1 hr).elim (hb ri) (ih.bare ri)⟩
 ·simp only [asc]
  cases hbq : Nat.beq q i with
  | true => have := Nat.eq_of_beq_eq_true hbq; subst this; exact .inr ⟨x, Nat.le_refl _, by simp, RepV.of g1⟩
  | false =>
   rcases ih.slots i with h6 | ⟨val, h6, h7, h8⟩
   ·exact .inl h6
   ·exact .inr ⟨val, by omega, by rw [show i - q = (i - (q + 1)) + 1 by omega]; simpa using h7, h8⟩
 ·rw [List.getElem?_append] at hj
  split at hj
  ·rename_i hlt
   obtain ⟨ri, h1, h2⟩ := g2.conts j c hj
   rw [List.getElem?_map] at h1
   cases hr : r1[j]? with
   | none => rw [hr] at h1; cases h1
   | some r0 =>
    rw [hr] at h1; cases h1
    rw [opnC_length] at hlt
    exact ⟨r0, by rw [List.getElem?_append_left (by omega)]; exact hr, h2⟩
  ·rename_i hge
   obtain ⟨ri, h1, h2⟩ := ih.conts _ c hj
   rw [opnC_length] at h1 hge
   exact ⟨ri, by rw [List.getElem?_append_right (by omega), hlen]; exact h1, h2⟩
theorem take_cnt {t : Ty} {r1 r2 : List RI} (h : r1.length = cnt t) : (r1 ++ r2).take (cnt t) = r1 := by
 rw [List.take_append_of_le_length (by omega), List.take_of_length_le (by omega)]
theorem drop_cnt {t : Ty} {r1 r2 : List RI} (h : r1.length = cnt t) : (r1 ++ r2).drop (cnt t) = r2 := by
 rw [List.drop_append_of_le_length (by omega), List.drop_of_length_le (by omega)]; rfl
theorem drop_cnt1 {t : Ty} {r1 r2 : List RI} {r : RI} (h : r1.length = cnt t) : (r1 ++ r :: r2).drop (cnt t + 1) = r2 := by
 rw [← List.drop_drop, drop_cnt h]; rfl
theorem in_law {F : Nat → Prop} {lp : List (Nat × Ty)} (all : List RI) : ∀ (ps : List PM) (v : PDen ps) (args : List Value) (ris pre : List RI) (q : Nat), ps.all (PM.off lp) = true → all = pre ++ regsOf ps ris → ArgsRep F w (plR ρ) ps v args ris → In F w (inH lp ρ) all ps v args (regsOf ps ris) pre.length q
 | [], _, args, ris, pre, q, hoff, hall, h => by
  obtain ⟨rfl, rfl⟩ := h
  exact ⟨rfl, fun i => .inl rfl, fun r o h => by simp [inConts] at h, fun r hr => by cases hr⟩
 | .ro t :: ps, v, args, ris, pre, q, hoff, hall, h => by
  obtain ⟨x, r, rfl, h1, h2, h3⟩ := h
  simp only [List.all_cons, Bool.and_eq_true, PM.off] at hoff
  have ih := in_law all ps v.2 r ris pre (q + 1) hoff.2 hall h3
  refine ⟨ih.len, fun i => ?_, ih.conts, ih.bare⟩
  simp only [inSlots, asc]
  cases hb : Nat.beq q i with
  | true => have := Nat.eq_of_beq_eq_true hb; subst this; exact .inr ⟨x, Nat.le_refl _, by simp, RepV.of (RepV1.hold (ρ' := rix (inH lp ρ) _) h1 (inH_off hoff.1) h2)⟩
  | false =>
   rcases ih.slots i with h6 | ⟨val, h6, h7, h8⟩
   ·exact .inl h6
   ·exact .inr ⟨val, by omega, by rw [show i - q = (i - (q + 1)) + 1 by omega]; simpa using h7, h8⟩
 | .mu t :: ps, v, args, ris, pre, q, hoff, hall, h => by
  obtain ⟨x, r, r1, r2, rfl, rfl, h2, h3⟩ := h
  simp only [List.all_cons, Bool.and_eq_true, PM.off] at hoff
  have hlen := h2.len
  simp only [regsOf, take_cnt hlen, drop_cnt hlen] at hall ⊢
  have ih := in_law all ps v.2 r r2 (pre ++ r1) (q + 1) hoff.2 (by simp [hall]) h3
  rw [List.length_append, hlen] at ih
  obtain ⟨k1, k2, k3, k4⟩ := in_step (q := q) (inH_off hoff.1) hall h2 ih
  exact ⟨k1, k2, k3, k4⟩
 | .own t :: ps, v, args, ris, pre, q, hoff, hall, h => by
  obtain ⟨x, r, r1, r2, rfl, rfl, h2, h3⟩ := h
  simp only [List.all_cons, Bool.and_eq_true, PM.off] at hoff
  have hlen := h2.len
  simp only [regsOf, take_cnt hlen, drop_cnt hlen] at hall ⊢
  have ih := in_law all ps v.2 r r2 (pre ++ r1) (q + 1) hoff.2 (by simp [hall]) h3
  rw [List.length_append, hlen] at ih
  obtain ⟨k1, k2, k3, k4⟩ := in_step (q := q) (inH_off hoff.1) hall h2 ih
  exact ⟨k1, k2, k3, k4⟩
 | .ownp qs t :: ps, v, args, ris, pre, q, hoff, hall, h => by
  obtain ⟨x, r, r1, rp, r2, rfl, rfl, h2, _, h3⟩ := h
  simp only [List.all_cons, Bool.and_eq_true, PM.off] at hoff
  have hlen := h2.len
  simp only [regsOf, take_cnt hlen, drop_cnt1 hlen] at hall ⊢
  have ih := in_law all ps v.2 r r2 (pre ++ r1) (q + 1) hoff.2 (by simp [hall]) h3
  rw [List.length_append, hlen] at ih
  obtain ⟨k1, k2, k3, k4⟩ := in_step (q := q) (inH_off hoff.1.1) hall h2 ih
  exact ⟨k1, k2, k3, k4⟩
theorem PRep.nil {rp : RI} (h1 : rp.A = none) (h2 : rp.c = 1) (h3 : rp.sub = []) : PRep F w ρ [] () rp :=
 ⟨⟨h1, h2⟩, fun _ _ _ h => (by cases h), fun _ _ _ _ _ _ _ _ _ h => (by cases h), fun b h => (by rw [h3] at h; cases h), fun _ _ _ h => (by cases h)⟩
theorem noPd_regs : ∀ (ps : List PM) (v : PDen ps) (args : List Value) (ris : List RI), noPd ps = true → ArgsRep F w ρ ps v args ris → regsOf ps ris = ris
 | [], v, args, ris, _, h => by obtain ⟨_, rfl⟩ := h; rfl
 | .ro t :: ps, v, args, ris, hn, h => by obtain ⟨x, r, _, _, _, h3⟩ := h; exact noPd_regs ps v.2 r ris hn h3
 | .mu t :: ps, v, args, ris, hn, h => by
  obtain ⟨x, r, r1, r2, rfl, rfl, h2, h3⟩ := h
  simp only [regsOf, take_cnt h2.len, drop_cnt h2.len, noPd_regs ps v.2 r r2 hn h3]
 | .own t :: ps, v, args, ris, hn, h => by
  obtain ⟨x, r, r1, r2, rfl, rfl, h2, h3⟩ := h
  simp only [regsOf, take_cnt h2.len, drop_cnt h2.len, noPd_regs ps v.2 r r2 hn h3]
 | .ownp qs t :: ps, v, args, ris, hn, h => by cases hn
theorem apart_pre {r1 a b : List RI} {r : RI} (h : Apart (r1 ++ b)) (ha : Apart (a ++ [r])) (hb : ∀ k, Blk (a ++ [r]) k → Blk b k) : Apart (r1 ++ a ++ [r]) ∧ ∀ k, Blk (r1 ++ a ++ [r]) k → Blk (r1 ++ b) k := by
 obtain ⟨g1, g2, g3⟩ := Apart.append.1 h
 rw [List.append_assoc]
 exact ⟨Apart.append.2 ⟨g1, ha, fun k h1 h2 => g3 k h1 (hb k h2)⟩, fun k hk => (Blk.append.1 hk).elim (fun h => Blk.append.2 (.inl h)) fun h => Blk.append.2 (.inr (hb k h))⟩
theorem args_rp : ∀ (ps : List PM) (v : PDen ps) (args : List Value) (ris : List RI), onePd ps = true → ArgsRep F w ρ ps v args ris → Apart ris →
  ∃ rp, PRep F w ρ (inPd ps) (inPv ps v) rp ∧ Apart (regsOf ps ris ++ [rp]) ∧ ∀ b, Blk (regsOf ps ris ++ [rp]) b → Blk ris b
 | [], v, args, ris, _, h, _ => by
  obtain ⟨_, rfl⟩ := h
  exact ⟨⟨none, none, 0, 1, 1, []⟩, PRep.nil rfl rfl rfl, ⟨fun b _ hb => (by obtain ⟨ri, hm, _⟩ := hb; cases hm), trivial⟩, fun b hb => (by
   obtain ⟨ri, hm, hb⟩ := hb
   simp only [regsOf, List.nil_append, List.mem_singleton] at hm
   subst hm
   rcases hb with ⟨p, h, _⟩ | h <;> cases h)⟩
 | .ro t :: ps, v, args, ris, hn, h, hap => by obtain ⟨x, r, _, _, _, h3⟩ := h; exact args_rp ps v.2 r ris hn h3 hap
 | .mu t :: ps, v, args, ris, hn, h, hap => by
  obtain ⟨x, r, r1, r2, rfl, rfl, h2, h3⟩ := h
  obtain ⟨rp, g1, g2, g3⟩ := args_rp ps v.2 r r2 hn h3 (Apart.append.1 hap).2.1
  simp only [regsOf, take_cnt h2.len, drop_cnt h2.len]
  exact ⟨rp, g1, apart_pre hap g2 g3⟩
 | .own t :: ps, v, args, ris, hn, h, hap => by
  obtain ⟨x, r, r1, r2, rfl, rfl, h2, h3⟩ := h
  obtain ⟨rp, g1, g2, g3⟩ := args_rp ps v.2 r r2 hn h3 (Apart.append.1 hap).2.1
  simp only [regsOf, take_cnt h2.len, drop_cnt h2.len]
  exact ⟨rp, g1, apart_pre hap g2 g3⟩
 | .ownp qs t :: ps, v, args, ris, hn, h, hap => by
  obtain ⟨x, r, r1, rp, r2, rfl, rfl, h2, h4, h3⟩ := h
  simp only [regsOf, take_cnt h2.len, drop_cnt1 h2.len, noPd_regs ps v.2 r r2 hn h3]
  obtain ⟨k1, ⟨k2, k3⟩, k4⟩ := Apart.append.1 hap
  refine ⟨rp, h4, apart_pre hap (Apart.append.2 ⟨k3, ⟨fun b _ hb => (by obtain ⟨ri, hm, _⟩ := hb; cases hm), trivial⟩, fun b hb hb2 => (by
   obtain ⟨ri, hm, hb2⟩ := hb2
   simp only [List.mem_singleton] at hm
   subst hm
   exact k2 b hb2 hb)⟩) fun b hb => ?_⟩
  rcases Blk.append.1 hb with hb | hb
  ·obtain ⟨ri, hm, hb⟩ := hb
   exact ⟨ri, by simp [hm], hb⟩
  ·obtain ⟨ri, hm, hb2⟩ := hb
   simp only [List.mem_singleton] at hm
   subst hm
   exact ⟨ri, by simp, hb2⟩
theorem pol_append : ∀ (l1 l2 : List (Nat × PL)) (p : Nat), pol (l1 ++ l2) p = match pol l1 p with | some q => some q | none => pol l2 p
 | [], l2, p => rfl
 | (k, x) :: l1, l2, p => by
  simp only [List.cons_append, pol]
  cases Nat.beq k p with
  | true => rfl
  | false => exact pol_append l1 l2 p
theorem pol_new : ∀ (lp : List (Nat × Ty)) (p : Nat), (∀ q, pol (newP lp) p = some q → q.l = []) ∧ ((pol (newP lp) p).isSome = inPl p lp)
 | [], p => ⟨fun q h => (by cases h), rfl⟩
 | (k, t) :: lp, p => by
  simp only [newP, List.map_cons, pol, inPl]
  cases Nat.beq k p with
  | true => exact ⟨fun q h => by cases h; rfl, rfl⟩
  | false => simpa [newP] using pol_new lp p
theorem pol_unP_none : ∀ (pl : List (Nat × Ty)) (v : PlDen pl) (p : Nat), (pol (unP pl v) p).isSome = inPl p pl
 | [], v, p => rfl
 | (k, t) :: pl, v, p => by
  simp only [unP, pol, inPl]
  cases Nat.beq k p with
  | true => rfl
  | false => simpa using pol_unP_none pl v.2 p
theorem init_pl {n : Nat} {lp : List (Nat × Ty)} {ps : List PM} {v : PDen ps} {p : Nat} (hd : (inPd ps).all (fun q => !(inPl q.1 lp)) = true) :
  (∀ i, (initSt n lp ps v).cont (.pl p i) = pCont (inPd ps) (inPv ps v) p i) ∧ (∀ k, (initSt n lp ps v).pln p = some k → (inPl p lp = true ∨ pLen (inPd ps) (inPv ps v) p = some k)) ∧ ((initSt n lp ps v).pln p = none → inPl p lp = false) ∧
   ∀ i c, pCont (inPd ps) (inPv ps v) p i = some c → inPl p lp = false := by
 have hu := pol_unP (inPd ps) (inPv ps v) p
 have hs := pol_unP_none (inPd ps) (inPv ps v) p
 obtain ⟨n1, n2⟩ := pol_new lp p
 have hoff : (pol (unP (inPd ps) (inPv ps v)) p).isSome = true → inPl p lp = false := fun h => by
  rw [hs, inPl_mem] at h
  obtain ⟨q, hq, e⟩ := List.mem_map.1 h
  have := List.all_eq_true.1 hd q hq
  rw [e] at this
  simpa using this
 simp only [St.cont, St.pln, initSt, pol_append]
 cases hp : pol (unP (inPd ps) (inPv ps v)) p with
 | some q =>
  rw [hp] at hu hoff
  refine ⟨fun i => hu.1 i, fun k hk => .inr ?_, fun h => (by cases h), fun i c _ => hoff rfl⟩
  rw [← hu.2]; exact hk
 | none =>
  rw [hp] at hu
  refine ⟨fun i => ?_, fun k hk => ?_, fun h => ?_, fun i c hc => ?_⟩
  ·rw [← hu.1 i]
   cases hq : pol (newP lp) p with
   | none => rfl
   | some q => simp only [PL.cont, n1 q hq]; rfl
  ·cases hq : pol (newP lp) p with
   | none => rw [hq] at hk; cases hk
   | some q => rw [hq] at n2; exact .inl n2.symm
  ·cases hq : pol (newP lp) p with
   | none => rw [hq] at n2; exact n2.symm
   | some q => rw [hq] at h; cases h
  ·rw [← hu.1 i] at hc; cases hc
theorem init_rel {F : Nat → Prop} (hF : ∀ b, F b → b < w.heap.size) {lp : List (Nat × Ty)} {ps : List PM} {v : PDen ps} {args : List Value} {ris : List RI} (hpl : plsIn lp ps = true) (h : ArgsRep F w (plR ρ) ps v args ris) (hap : Apart ris) (hd : ∀ b, Blk ris b → ¬ F b) (n : Nat) :
  ∃ M, RelAt ⟨F, plR ρ⟩ M w F (rix (inH lp ρ) ((regsOf ps ris).map zeroA)) (initSt n lp ps v) { tmps := args.toArray ++ Array.replicate (n - args.length) undef, defers := [] } w ∧
   (∀ b, M b → Blk ris b ∧ ∀ ri ∈ regsOf ps ris, ri.blk b → ri.c ≠ 0) ∧ (∀ ri ∈ regsOf ps ris, ri ∈ ris) := by
 simp only [plsIn, Bool.and_eq_true] at hpl
 obtain ⟨⟨hoff, hone⟩, hdis⟩ := hpl
 have hin := in_law (regsOf ps ris) ps v args ris [] 0 hoff rfl h
 obtain ⟨rp, hpr, hap2, hbl⟩ := args_rp ps v args ris hone h hap
 have hapr : Apart (regsOf ps ris) := (Apart.append.1 hap2).1
 have hrp : ∀ b, rp.blk b → ¬ Blk (regsOf ps ris) b := fun b hb hb2 => (Apart.append.1 hap2).2.2 b hb2 ⟨rp, by simp, hb⟩
 have hmem : ∀ ri ∈ regsOf ps ris, ri ∈ ris := by
  clear hin hap2 hbl hapr hrp hpr hdis hone hoff hd hap h
  intro ri
  induction ps generalizing ris with
  | nil => intro h; cases h
  | cons p ps ih =>
   cases p with
   | ro t => exact fun h => ih (v := v.2) h
   | mu t => exact fun h => (List.mem_append.1 h).elim (fun h => List.mem_of_mem_take h) fun h => List.mem_of_mem_drop (ih (v := v.2) h)
   | own t => exact fun h => (List.mem_append.1 h).elim (fun h => List.mem_of_mem_take h) fun h => List.mem_of_mem_drop (ih (v := v.2) h)
   | ownp qs t => exact fun h => (List.mem_append.1 h).elim (fun h => List.mem_of_mem_take h) fun h => List.mem_of_mem_drop (ih (v := v.2) h)
 have getC : ∀ {r : Nat} {c : Cont}, (initSt n lp ps v).cont r = some c → ∃ ri, (regsOf ps ris)[r]? = some ri ∧ CRep F w (rix (inH lp ρ) ((regsOf ps ris).map zeroA)) (zeroA ri) c := fun {r c} hr => by
  rw [St.cont_iff] at hr
  have hr' : ol (numb 0 (inConts ps v 0)) r = some (.live c) := hr
  rw [ol_numb, if_pos (Nat.zero_le _), Nat.sub_zero] at hr'
  cases hc : (inConts ps v 0)[r]? with
  | none => rw [hc] at hr'; cases hr'
  | some c' => rw [hc] at hr'; cases hr'; exact hin.conts r c hc
 have getA : ∀ {r : Nat} {ri : RI}, rix (inH lp ρ) ((regsOf ps ris).map zeroA) r = some ri → ∃ r0, (regsOf ps ris)[r]? = some r0 ∧ ri = zeroA r0 := fun {r ri} hr => by
  have hr : ((regsOf ps ris).map zeroA)[r]? = some ri := hr
  rw [List.getElem?_map] at hr
  cases he : (regsOf ps ris)[r]? with
  | none => rw [he] at hr; cases hr
  | some r0 => rw [he] at hr; cases hr; exact ⟨r0, rfl, rfl⟩
 have getP : ∀ {p i : Nat} {c : Cont}, (initSt n lp ps v).cont (.pl p i) = some c → pCont (inPd ps) (inPv ps v) p i = some c ∧ (∀ x, inH lp ρ (.pl p i) = some x ↔ ρ (.pl p i) = some x) := fun {p i c} hr => by
  obtain ⟨k1, _, _, k4⟩ := init_pl (n := n) (lp := lp) (v := v) (p := p) hdis
  rw [k1] at hr
  refine ⟨hr, fun x => ?_⟩
  simp only [inH, k4 i c hr, Bool.false_eq_true, if_false]
 have getPA : ∀ {p i : Nat} {c : Cont} {ri : RI}, (initSt n lp ps v).cont (.pl p i) = some c → inH lp ρ (.pl p i) = some ri → pCont (inPd ps) (inPv ps v) p i = some c ∧ ρ (.pl p i) = some ri ∧ ∀ b, ri.blk b → rp.blk b := fun {p i c ri} hr h1 => by
  obtain ⟨g1, g2⟩ := getP hr
  have := (g2 ri).1 h1
  obtain ⟨ri', k1, _, k3⟩ := hpr.obj p i c g1
  have k1 : ρ (.pl p i) = some ri' := k1
  rw [this] at k1; cases k1
  exact ⟨g1, this, fun b hb => .inr (k3 b hb)⟩
 refine ⟨Blk ((regsOf ps ris).map zeroA ++ [rp]), ⟨rfl, fun i x hx => ?_, fun r c hr => ?_, fun r r' c c' ri ri' b hr hr' e1 e2 hp hp' => ?_, fun r c ri b hr e1 hp => ?_, fun r hr => ?_, fun p k i hk hi => ?_, fun p i hk => ?_, hF, fun b hb => hb, fun b hb => .inl hb, Kept.refl _ w⟩, fun b hb => ?_, hmem⟩
 ·have hlt : i < n := St.lt_get hx
  rw [St.get_lt (s := initSt n lp ps v) hlt] at hx
  cases hx
  have ht : ∃ val, ({ tmps := args.toArray ++ Array.replicate (n - args.length) undef, defers := [] } : Act).tmps[i]? = some val ∧ (i < args.length → args[i]? = some val) := by
   by_cases hl : i < args.length
   ·refine ⟨args[i], ?_, fun _ => List.getElem?_eq_getElem hl⟩
    simp [Array.getElem?_append, hl]
   ·refine ⟨undef, ?_, fun h => absurd h hl⟩
    rw [Array.getElem?_append_right (by simp; omega)]
    simp only [List.size_toArray, Array.getElem?_replicate]
    rw [if_pos (by omega)]
  obtain ⟨val, t1, t2⟩ := ht
  refine ⟨val, t1, ?_⟩
  rcases hin.slots i with h6 | ⟨val', _, h7, h8⟩
  ·show RepV _ _ _ (asc (inSlots ps v 0 0) i).t (asc (inSlots ps v 0 0) i).v val
   have h6' : asc (inSlots ps v 0 0) i = ⟨.any, ()⟩ := h6
   rw [h6']
   trivial
  ·simp only [Nat.sub_zero] at h7
   have hl : i < args.length := by
    rcases Nat.lt_or_ge i args.length with h | h
    ·exact h
    ·rw [List.getElem?_eq_none h] at h7; cases h7
   rw [t2 hl] at h7; cases h7
   exact h8
 ·cases r with
  | pl p i =>
   obtain ⟨g1, g2⟩ := getP hr
   obtain ⟨ri, k1, k2, _⟩ := hpr.obj p i c g1
   refine ⟨ri, (g2 ri).2 k1, ?_⟩
   obtain ⟨t, xs, rfl, hm⟩ := pCont_ty g1
   refine ORep.holdP (ρ := plR ρ) (inH_off ?_) k2
   have : ∀ (ps : List PM), ps.all (PM.off lp) = true → (p, t) ∈ inPd ps → offP lp t = true := by
    intro ps
    induction ps with
    | nil => intro _ h; cases h
    | cons q ps ih =>
     intro h1 h2
     simp only [List.all_cons, Bool.and_eq_true] at h1
     cases q with
     | ro t => exact ih h1.2 h2
     | mu t => exact ih h1.2 h2
     | own t => exact ih h1.2 h2
     | ownp qs t' =>
      simp only [PM.off, Bool.and_eq_true] at h1
      exact List.all_eq_true.1 h1.1.2 _ h2
   exact this ps hoff hm
  | reg r =>
   obtain ⟨ri, h5, h6⟩ := getC hr
   exact ⟨zeroA ri, by show ((regsOf ps ris).map zeroA)[r]? = _; rw [List.getElem?_map, h5]; rfl, h6⟩
 ·cases r with
  | pl p i =>
   obtain ⟨a1, a2, a3⟩ := getPA hr e1
   cases r' with
   | pl p' i' =>
    obtain ⟨b1, b2, b3⟩ := getPA hr' e2
    obtain ⟨rfl, rfl⟩ := hpr.sep p i p' i' c c' ri ri' b a1 b1 a2 b2 hp hp'
    rfl
   | reg r' =>
    obtain ⟨r0, b1, rfl⟩ := getA e2
    exact absurd ⟨r0, List.mem_of_getElem? b1, (zeroA_blk (hin.bare r0 (List.mem_of_getElem? b1)) hp').1⟩ (hrp b (a3 b hp))
  | reg r =>
   obtain ⟨r0, a1, rfl⟩ := getA e1
   have hz := (zeroA_blk (hin.bare r0 (List.mem_of_getElem? a1)) hp).1
   cases r' with
   | pl p' i' =>
    obtain ⟨b1, b2, b3⟩ := getPA hr' e2
    exact absurd ⟨r0, List.mem_of_getElem? a1, hz⟩ (hrp b (b3 b hp'))
   | reg r' =>
    obtain ⟨r0', b1, rfl⟩ := getA e2
    exact congrArg RK.reg <| apart_idx _ hapr a1 b1 hz (zeroA_blk (hin.bare r0' (List.mem_of_getElem? b1)) hp').1
 ·cases r with
  | pl p i =>
   obtain ⟨a1, a2, a3⟩ := getPA hr e1
   have hb : Blk ((regsOf ps ris) ++ [rp]) b := ⟨rp, by simp, a3 b hp⟩
   exact ⟨hd b (hbl b hb), .inr ⟨rp, by simp, a3 b hp⟩⟩
  | reg r =>
   have e1' : ((regsOf ps ris).map zeroA)[r]? = some ri := e1
   obtain ⟨r0, a1, rfl⟩ := getA e1
   have hz := (zeroA_blk (hin.bare r0 (List.mem_of_getElem? a1)) hp).1
   exact ⟨hd _ (hbl b ⟨r0, by simp [List.mem_of_getElem? a1], hz⟩), .inr ⟨zeroA r0, List.mem_append.2 (.inl (List.mem_of_getElem? e1')), hp⟩⟩
 ·have hr' : ol (numb 0 (inConts ps v 0)) r = none := hr
  rw [ol_numb, if_pos (Nat.zero_le _), Nat.sub_zero] at hr'
  have hl := hin.len
  simp only [List.length_nil] at hl
  have : (regsOf ps ris).length ≤ r := by
   rw [← hl]
   rcases Nat.lt_or_ge r (inConts ps v 0).length with h2 | h2
   ·rw [List.getElem?_eq_getElem h2] at hr'; cases hr'
   ·exact h2
  exact List.getElem?_eq_none (by simpa using this)
 ·show inH lp ρ (.pl p i) = none
  obtain ⟨_, k2, _, _⟩ := init_pl (n := n) (lp := lp) (v := v) (p := p) hdis
  simp only [inH]
  rcases k2 k hk with h1 | h1
  ·rw [if_pos h1]
  ·split
   ·rfl
   ·exact hpr.fresh p k i h1 hi
 ·show inH lp ρ (.pl p i) = plR ρ (.pl p i)
  obtain ⟨_, _, k3, _⟩ := init_pl (n := n) (lp := lp) (v := v) (p := p) hdis
  simp only [inH, k3 hk, Bool.false_eq_true, if_false]
  rfl
 ·rcases Blk.append.1 hb with hb | hb
  ·obtain ⟨rz, hm, hb⟩ := hb
   obtain ⟨r0, h0, rfl⟩ := List.mem_map.1 hm
   obtain ⟨g1, g2⟩ := zeroA_blk (hin.bare r0 h0) hb
   refine ⟨hbl b ⟨r0, by simp [h0], g1⟩, fun ri hri hb2 => ?_⟩
   obtain ⟨i, hi'⟩ := List.getElem?_of_mem hri
   obtain ⟨j, hj'⟩ := List.getElem?_of_mem h0
   have := apart_idx _ hapr hi' hj' hb2 g1
   subst this
   rw [hi'] at hj'; cases hj'
   exact g2
  ·obtain ⟨ri, hm, hb3⟩ := hb
   simp only [List.mem_singleton] at hm
   subst hm
   exact ⟨hbl b ⟨ri, by simp, hb3⟩, fun r0 h0 hb2 => absurd ⟨r0, h0, hb2⟩ (hrp b hb3)⟩
theorem TRep_hold : ∀ (t : Ty) (v : t.den) (cs : List Value) (ris : List RI), t.hold = true → TRep F w ρ t v cs ris → ris = [] ∧ Rep F (mem w) ρ t v cs
 | .st t, v, cs, ris, hp, h => TRep_hold t v cs ris hp h
 | .pair a b, v, cs, ris, hp, ⟨c1, c2, r1, r2, e1, e2, h1, h2⟩ => by
  simp only [Ty.hold, Bool.and_eq_true] at hp
  obtain ⟨g1, g2⟩ := TRep_hold a _ _ _ hp.1 h1
  obtain ⟨g3, g4⟩ := TRep_hold b _ _ _ hp.2 h2
  exact ⟨by rw [e2, g1, g3]; rfl, c1, c2, e1, g2, g4⟩
 | .int _, v, cs, ris, hp, h => ⟨h.1, h.2.2⟩
 | .bool, v, cs, ris, hp, h => ⟨h.1, h.2.2⟩
 | .str, v, cs, ris, hp, h => ⟨h.1, h.2.2⟩
 | .unit, v, cs, ris, hp, h => ⟨h.1, h.2.2⟩
 | .slice _, v, cs, ris, hp, h => ⟨h.1, h.2.2⟩
 | .sln _, v, cs, ris, hp, h => ⟨h.1, h.2.2⟩
 | .ptr _, v, cs, ris, hp, h => ⟨h.1, h.2.2⟩
 | .rad _ _, v, cs, ris, hp, h => ⟨h.1, h.2.2⟩
 | .clo _ _, v, cs, ris, hp, h => ⟨h.1, h.2.2⟩
 | .fmp _ _, v, cs, ris, hp, h => ⟨h.1, h.2.2⟩
 | .nils, v, cs, ris, hp, h => ⟨h.1, h.2.2⟩
 | .nilp, v, cs, ris, hp, h => ⟨h.1, h.2.2⟩
 | .lost, v, cs, ris, hp, h => ⟨h.1, h.2.2⟩
 | .psl _, v, cs, ris, hp, h => ⟨h.1, h.2.2⟩
theorem TRepV_hold {t : Ty} {v : t.den} {x : Value} {ris : List RI} (hp : t.hold = true) (h : TRepV F w ρ t v x ris) : ris = [] ∧ RepV1 F (mem w) ρ t v x := by
 unfold TRepV at h
 unfold RepV1
 split at h
 ·rename_i hs
  obtain ⟨cs, e, h⟩ := h
  obtain ⟨g1, g2⟩ := TRep_hold _ _ _ _ hp h
  exact ⟨g1, by rw [if_pos hs]; exact ⟨cs, e, g2⟩⟩
 ·rename_i hs
  obtain ⟨g1, g2⟩ := TRep_hold _ _ _ _ hp h.2
  exact ⟨g1, by rw [if_neg hs]; exact ⟨h.1, g2⟩⟩
theorem tree_alias {t : Ty} (h : t.tree = true) : alias t = none := by cases t <;> first | rfl | (simp [Ty.tree, Ty.hold, Ty.pure] at h)
theorem hold_tree : ∀ {t : Ty}, t.hold = true → t.tree = true
 | .st t, h => hold_tree (t := t) h
 | .pair a b, h => by
  simp only [Ty.hold, Bool.and_eq_true] at h
  simp only [Ty.tree, Bool.and_eq_true]
  exact ⟨hold_tree h.1, hold_tree h.2⟩
 | .int _, _ => rfl
 | .bool, _ => rfl
 | .str, _ => rfl
 | .unit, _ => rfl
 | .slice _, h => h
 | .sln _, h => h
 | .ptr _, h => h
 | .rad _ _, h => h
 | .clo _ _, h => h
 | .fmp _ _, h => h
 | .nils, _ => rfl
 | .nilp, _ => rfl
 | .lost, _ => rfl
 | .psl _, _ => rfl
theorem SlotR.not {own : List MO} {T : Ty} {v : T.den} {val : Value} {r : List RI} (h : SlotR F' w ρ own T v val r) (hT : T.tree = true) : TRepV F' w (plR ρ) T v val r := by
 rcases h with h | ⟨_, c, q, h, _⟩
 ·exact h
 ·rw [tree_alias hT] at h; cases h
def RM.isVal : RM → Bool
 | .val _ => true
 | _ => false
def RM.offV (ps : List (Nat × Ty)) : RM → Bool
 | .val t => offP ps t
 | _ => true
def rsOk : List RM → Bool
 | [] => true
 | .val t :: r => rsOk r && offP (rPls r) t
 | .own _ :: r => rsOk r
 | .ownp ps _ :: r => r.all RM.isVal && (r.all (RM.offV ps) && !ps.isEmpty) && rsOk r
theorem vals_nil {ρc : RK → Option RI} : ∀ (rs : List RM) {v : RDen rs} {xs : List Value} {ris : List RI}, rs.all RM.isVal = true → ResRepL F' w ρc rs v xs ris → ris = []
 | [], v, xs, ris, _, h => h.2
 | .val t :: rs, v, xs, ris, hv, ⟨x, l, r1, r2, _, e, h1, h2⟩ => by
  simp only [List.all_cons, Bool.and_eq_true] at hv
  rw [e, h1.1, vals_nil rs hv.2 h2]; rfl
theorem PRep.nilU {ps : List (Nat × Ty)} (h : ps = []) : PRep F w ρ ps (nilU h) ⟨none, none, 0, 1, 1, []⟩ := by
 subst h
 exact PRep.nil rfl rfl rfl
theorem PRep.agree {ρ' : RK → Option RI} {ps : List (Nat × Ty)} {v : PlDen ps} {rp : RI} (h1 : ∀ p i, inPl p ps = true → ρ' (.pl p i) = ρ (.pl p i)) (h2 : ∀ b ∈ ps, ∀ q ∈ b.2.pls, ∀ i x, ρ (.pl q i) = some x → ρ' (.pl q i) = some x) (h : PRep F w ρ ps v rp) : PRep F w ρ' ps v rp := by
 have hin : ∀ {p i c}, pCont ps v p i = some c → inPl p ps = true := fun {p i c} hc => by
  obtain ⟨t, xs, _, hm⟩ := pCont_ty hc
  exact inPl_mem.2 (List.mem_map.2 ⟨_, hm, rfl⟩)
 refine ⟨h.A, fun p i c hc => ?_, fun p i p' i' c c' ri ri' b hc hc' e e' => ?_, fun b hb => ?_, fun p n i hn hi => ?_⟩
 ·obtain ⟨ri, g1, g2, g3⟩ := h.obj p i c hc
  obtain ⟨t, xs, rfl, hm⟩ := pCont_ty hc
  exact ⟨ri, by rw [h1 p i (hin hc)]; exact g1, ORep.holdP (h2 _ hm) g2, g3⟩
 ·rw [h1 p i (hin hc)] at e
  rw [h1 p' i' (hin hc')] at e'
  exact h.sep p i p' i' c c' ri ri' b hc hc' e e'
 ·obtain ⟨p, i, c, ri, g1, g2, g3⟩ := h.sub b hb
  exact ⟨p, i, c, ri, g1, by rw [h1 p i (hin g1)]; exact g2, g3⟩
 ·cases hp : inPl p ps with
  | true => rw [h1 p i hp]; exact h.fresh p n i hn hi
  | false =>
   have : ∀ (ps : List (Nat × Ty)) (v : PlDen ps), inPl p ps = false → pLen ps v p = none := by
    intro ps
    induction ps with
    | nil => intro v _; rfl
    | cons q ps ih =>
     intro v hq
     obtain ⟨k, t⟩ := q
     simp only [inPl, Bool.or_eq_false_iff] at hq
     simp only [pLen, hq.1, cond_false]
     exact ih v.2 hq.2
   rw [this ps v hp] at hn; cases hn
theorem res_out {own : List MO} {ρc : RK → Option RI} : ∀ (rs : List RM) (is : List Nat) {x : SDen (outSl rs is)} {u : PlDen (rPls rs)} {ris : List RI} {v : RDen rs} {rp : RI}, rs.all RM.tree = true → rsOk rs = true → (∀ b ∈ outSl rs is, ∀ p ∈ b.2.pls, inPl p (rPls rs) = false → ∀ i, ρc (.pl p i) = ρ (.pl p i)) → (∀ b ∈ rPls rs, ∀ p ∈ b.2.pls, inPl p (rPls rs) = false → ∀ i, ρc (.pl p i) = ρ (.pl p i)) →
  SlotsR F' w ρ a own (outSl rs is) x ris → PRep F' w (plR ρ) (rPls rs) u rp → readR rs u is x = some v →
  ResRepL F' w ρc rs v (is.map fun i => a.tmps.getD i undef) (ris ++ if (rPls rs).isEmpty then [] else [rp])
 | [], [], x, u, ris, v, rp, _, _, _, _, h, _, _ => ⟨rfl, by simp only [rPls, List.isEmpty_nil, if_true, List.append_nil]; exact h⟩
 | [], _ :: _, x, u, ris, v, rp, _, _, _, _, h, _, hr => by simp [readR] at hr
 | .val t :: _, [], x, u, ris, v, rp, _, _, _, _, h, _, hr => by simp [readR] at hr
 | .own t :: _, [], x, u, ris, v, rp, _, _, _, _, h, _, hr => by simp [readR] at hr
 | .ownp _ t :: _, [], x, u, ris, v, rp, _, _, _, _, h, _, hr => by simp [readR] at hr
 | .val t :: rs, i :: is, x, u, ris, v, rp, ht, ho, hag, hap, h, hpr, hr => by
  simp only [List.all_cons, Bool.and_eq_true, RM.tree] at ht
  simp only [rsOk, Bool.and_eq_true] at ho
  obtain ⟨r1, r2, e, ⟨val, hv, hs, _⟩, h2⟩ := h
  simp only [readR] at hr
  split at hr
  ·rename_i l hl
   cases hr
   obtain ⟨g1, g2⟩ := TRepV_hold ht.1 (hs.not (hold_tree ht.1))
   refine ⟨val, _, r1, r2 ++ (if (rPls rs).isEmpty then [] else [rp]), ?_, by rw [e, List.append_assoc]; rfl, ⟨g1, ht.1, RepV1.hold ht.1 (fun p hp i x hx => ?_) g2⟩, res_out rs is ht.2 ho.1 (fun b hb => hag b (by simp only [outSl]; exact List.mem_cons_of_mem _ hb)) hap h2 hpr hl⟩
   ·simp [Array.getD_eq_getD_getElem?, hv]
   ·have h5 := List.all_eq_true.1 ho.2 p hp
    simp only [Bool.not_eq_true'] at h5
    rw [hag (_, t) (by simp only [outSl]; exact List.mem_cons_self) p hp h5]; exact hx
  ·cases hr
 | .own t :: rs, i :: is, x, u, ris, v, rp, ht, ho, hag, hap, h, hpr, hr => by
  simp only [List.all_cons, Bool.and_eq_true, RM.tree] at ht
  simp only [rsOk] at ho
  obtain ⟨r1, r2, e, ⟨val, hv, hs, _⟩, h2⟩ := h
  simp only [readR] at hr
  split at hr
  ·rename_i hnil
   split at hr
   ·rename_i l hl
    cases hr
    have ih := res_out rs is ht.2 ho (ρc := ρc) (fun b hb p hp _ => hag b (by simp only [outSl]; exact List.mem_cons_of_mem _ hb) p hp rfl) (fun b hb => by rw [hnil] at hb; cases hb) h2 (PRep.nilU hnil) hl
    rw [hnil, List.isEmpty_nil, if_pos rfl, List.append_nil] at ih
    refine ⟨val, _, r1, r2, ?_, by simp only [rPls, List.isEmpty_nil, if_true, List.append_nil]; exact e, (hs.not ht.1).holdP (fun p hp i x hx => ?_), ih⟩
    ·simp [Array.getD_eq_getD_getElem?, hv]
    ·rw [hag _ (by simp only [outSl]; exact List.mem_cons_self) p hp rfl]; exact hx
   ·cases hr
  ·cases hr
 | .ownp ps t :: rs, i :: is, x, u, ris, v, rp, ht, ho, hag, hap, h, hpr, hr => by
  simp only [List.all_cons, Bool.and_eq_true, RM.tree] at ht
  simp only [rsOk, Bool.and_eq_true, Bool.not_eq_true'] at ho
  obtain ⟨⟨hval, hoffv, hne⟩, ho⟩ := ho
  obtain ⟨r1, r2, e, ⟨val, hv, hs, _⟩, h2⟩ := h
  simp only [readR] at hr
  split at hr
  ·rename_i hnil
   split at hr
   ·rename_i l hl
    cases hr
    have hmo : ∀ (rs : List RM) (is : List Nat) b, rs.all (RM.offV ps) = true → rs.all RM.isVal = true → b ∈ outSl rs is → offP ps b.2 = true := by
     intro rs
     induction rs with
     | nil => intro is b _ _ hb; cases is <;> cases hb
     | cons r rs ih =>
      intro is b h1 h2 hb
      simp only [List.all_cons, Bool.and_eq_true] at h1 h2
      cases is with
      | nil => cases r <;> cases hb
      | cons j is =>
       cases r with
       | val t =>
        simp only [outSl] at hb
        rcases List.mem_cons.1 hb with rfl | hb
        ·exact h1.1
        ·exact ih is b h1.2 h2.2 hb
       | own t => cases h2.1
       | ownp q t => cases h2.1
    have ih := res_out rs is ht.2 ho (ρc := ρc) (fun b hb p hp _ => hag b (by simp only [outSl]; exact List.mem_cons_of_mem _ hb) p hp (by
     have := List.all_eq_true.1 (hmo rs is b hoffv hval hb) p hp
     simpa [rPls] using this)) (fun b hb => by rw [hnil] at hb; cases hb) h2 (PRep.nilU hnil) hl
    rw [hnil, List.isEmpty_nil, if_pos rfl, List.append_nil] at ih
    have hr2 : r2 = [] := vals_nil rs hval ih
    subst hr2
    have hag1 : ∀ p ∈ t.pls, inPl p ps = false → ∀ i, ρc (.pl p i) = ρ (.pl p i) := hag _ (by simp only [outSl]; exact List.mem_cons_self)
    let ρr : RK → Option RI := fun k => match k with
     | .reg _ => none
     | .pl p i => if inPl p ps = true then ρ (.pl p i) else ρc (.pl p i)
    have hρ1 : ∀ p i, inPl p ps = true → ρr (.pl p i) = ρ (.pl p i) := fun p i h => by simp only [ρr, if_pos h]
    have hρ0 : ∀ p i, inPl p ps = false → ρr (.pl p i) = ρc (.pl p i) := fun p i h => by simp only [ρr, h, Bool.false_eq_true, if_false]
    refine ⟨val, _, r1 ++ [rp], [], ?_, ?_, cnP_law (ρ0 := ρc) ps t ht.1.1 ⟨ρr, r1, rp, hρ0, rfl, (hs.not ht.1.1).holdP (fun p hp i x hx => ?_), PRep.agree (ρ := plR ρ) (fun p i h => hρ1 p i h) (fun b hb q hq i x hx => ?_) hpr⟩, ih⟩
    ·simp [Array.getD_eq_getD_getElem?, hv]
    ·simp only [rPls, hne, Bool.false_eq_true, if_false]
     rw [e]; simp
    ·cases hq : inPl p ps with
     | true => rw [hρ1 p i hq]; exact hx
     | false => rw [hρ0 p i hq, hag1 p hp hq]; exact hx
    ·cases hq2 : inPl q ps with
     | true => rw [hρ1 q i hq2]; exact hx
     | false => rw [hρ0 q i hq2, hap b hb q hq hq2]; exact hx
   ·cases hr
  ·cases hr
def retVal (tmps : Array Value) : List Nat → Value
 | [i] => tmps.getD i undef
 | is => .tuple (is.map fun i => tmps.getD i undef).toArray
theorem mapM_run {α : Type} (f : α → Sem Value) (g : α → Value) : ∀ (l : List α), (∀ x ∈ l, (f x).run P w = .ok (g x) w) → (l.mapM f).run P w = .ok (l.map g) w
 | [], _ => by simp [Sem.run_pure]
 | x :: l, h => by
  simp only [List.mapM_cons, Sem.run_bind, h x (by simp), Result.andThen_ok, mapM_run f g l (fun y hy => h y (by simp [hy])), Sem.run_pure, List.map_cons]
theorem get_some_lt {s : St} {i : Nat} {x : TV} (h : s.get i = some x) : i < s.n := by
 rcases Nat.lt_or_ge i s.n with h1 | h1
 ·exact h1
 ·rw [St.get_ge (Nat.not_lt.2 h1)] at h; cases h
theorem loadC_n {tb : Tab} : ∀ (cells : List (Nat × Nat)) {s s' : St}, loadC tb cells s = some s' → s'.n = s.n + cells.length
 | [], s, s', h => by simp only [loadC] at h; cases h; rfl
 | (b, t) :: r, s, s', h => by
  simp only [loadC] at h
  split at h
  ·split at h
   ·split at h
    ·rw [loadC_n r h]; simp only [List.length_cons]; omega
    ·cases h
   ·cases h
  ·cases h
theorem get_more {s : St} {x : TV} {b : Nat} (hb : b < s.n) (st : St) (hst : st = ⟨s.n + 1, (s.n, x) :: s.slots, s.nx, s.objs, s.pls⟩) : st.get b = s.get b := by
 subst hst
 have h1 : Nat.blt b (s.n + 1) = true := by rw [Nat.blt_eq]; omega
 have h2 : Nat.blt b s.n = true := by rw [Nat.blt_eq]; omega
 have h3 : Nat.beq s.n b = false := beq_false (by omega)
 simp only [St.get, asc, h1, h2, h3, cond_true, cond_false]
theorem loadC_law (hT : TabOk P tb) : ∀ (cells : List (Nat × Nat)) {s s' : St} {a : Act} {F : Nat → Prop} {ρ : RK → Option RI} {w : World}, RelAt F0 M W0 F ρ s a w → a.tmps.size = s.n → loadC tb cells s = some s' →
  ∃ vals : List Value, vals.length = cells.length ∧ s'.n = s.n + cells.length ∧ RelAt F0 M W0 F ρ s' ⟨a.tmps ++ vals.toArray, a.defers⟩ w ∧
   ∀ (k b t : Nat), cells[k]? = some (b, t) → b < s.n + k ∧ ∃ q v, (a.tmps ++ vals.toArray)[b]? = some (.pointer (some q)) ∧ vals[k]? = some v ∧ (loadVar t q).run P w = .ok v w
 | [], s, s', a, F, ρ, w, h, ha, he => by
  simp only [loadC] at he
  cases he
  exact ⟨[], rfl, rfl, by simpa using h, fun k b t hk => by simp at hk⟩
 | (b, t) :: r, s, s', a, F, ρ, w, h, ha, he => by
  simp only [loadC] at he
  split at he
  ·rename_i q o u i hb hi
   split at he
   ·rename_i y hy
    split at he
    ·rename_i l hl
     obtain ⟨val, hv, hvr⟩ := h.slot b _ hb
     obtain ⟨_, ri, p, h1, h2, h3⟩ := hvr
     have hval : val = .pointer (some (adr (p.1, p.2 + o))) := by simpa using h3
     subst hval
     obtain ⟨ri', h1', hbr⟩ := h.box q y hy
     rw [h1] at h1'; cases h1'
     obtain ⟨p', ds, cs, el, k1, k2, k3, k4, k5⟩ := hbr.ex
     rw [h2] at k1; cases k1
     obtain ⟨s1, s2, c1, c2, c3, e1, e2, e3, _⟩ := comp_law y.t o i.sz i.agg l hl y.v ds k5
     have hcs : CellsAt (mem w) p.1 (p.2 + o) c2 := fun j v hj => by
      have hjl : j < c2.length := by
       rcases Nat.lt_or_ge j c2.length with h | h
       ·exact h
       ·simp [List.getElem?_eq_none h] at hj
      have h6 : ds[o + j]? = some v := by
       rw [e1, List.append_assoc, ← e2, List.getElem?_append_right (by omega), Nat.add_sub_cancel_left, List.getElem?_append_left hjl]
       exact hj
      have := k4 (o + j) v h6
      rw [Nat.add_assoc]; exact this
     obtain ⟨val, h8, h9⟩ := load_law (P := P) (hT t i hi) s2 s1 (comp_one _ _ _ _ _ hl) (comp_cell _ _ _ _ _ hl hbr.cell) (p := (p.1, p.2 + o)) (v := l.g y.v) (cs := c2) hcs e3
     have hlt : b < s.n := get_some_lt hb
     have h' : RelAt F0 M W0 F ρ ⟨s.n + 1, (s.n, ⟨l.t, l.g y.v⟩) :: s.slots, s.nx, s.objs, s.pls⟩ ⟨a.tmps ++ #[val], a.defers⟩ w := by
      refine ⟨h.defers, fun j x hx => ?_, h.cobj, h.csep, h.cown, h.fresh, h.pfresh, h.pfor, h.lt, h.base, h.frm, h.kept⟩
      by_cases hj : j = s.n
      ·subst hj
       have hx' : x = ⟨l.t, l.g y.v⟩ := by
        have h5 : Nat.blt s.n (s.n + 1) = true := by rw [Nat.blt_eq]; omega
        simp only [St.get, asc, h5, Nat.beq_refl, cond_true, Option.some.injEq] at hx
        exact hx.symm
       subst hx'
       exact ⟨val, by simp [← ha], RepV.of h9⟩
      ·have hj' : j < s.n := by
        have := get_some_lt hx
        simp only at this
        omega
       rw [get_more hj' _ rfl] at hx
       obtain ⟨v2, g1, g2⟩ := h.slot j x hx
       exact ⟨v2, by rw [Array.getElem?_append_left (by omega)]; exact g1, g2⟩
     obtain ⟨vals, g1, g2, g3, g4⟩ := loadC_law hT r h' (by simp [ha]) he
     refine ⟨val :: vals, by simp [g1], by rw [g2]; simp only [List.length_cons]; omega, by simpa using g3, fun k c t' hk => ?_⟩
     cases k with
     | zero =>
      simp only [List.getElem?_cons_zero, Option.some.injEq, Prod.mk.injEq] at hk
      obtain ⟨rfl, rfl⟩ := hk
      refine ⟨by omega, adr (p.1, p.2 + o), val, ?_, by simp, h8⟩
      rw [Array.getElem?_append_left (by omega)]; exact hv
     | succ k =>
      simp only [List.getElem?_cons_succ] at hk
      obtain ⟨m1, q', v', m2, m3, m4⟩ := g4 k c t' hk
      refine ⟨by simp only at m1; omega, q', v', by simpa using m2, by simpa using m3, m4⟩
    ·cases he
   ·cases he
  ·cases he
theorem results_run {fn : Func} {is : List Nat} {cells : List (Nat × Nat)} {n : Nat} {tmps : Array Value} {vals : List Value} (hres : fn.results = (is.map (resVar n cells)).toArray) (hn : tmps.size = n) (hl : vals.length = cells.length)
  (hc : ∀ (k b t : Nat), cells[k]? = some (b, t) → b < n + k ∧ ∃ q v, (tmps ++ vals.toArray)[b]? = some (.pointer (some q)) ∧ vals[k]? = some v ∧ (loadVar t q).run P w = .ok v w) (hb : ∀ c ∈ cells, c.1 < n) :
  (results fn tmps).run P w = .ok (retVal (tmps ++ vals.toArray) is) w := by
 unfold results
 rw [hres, List.mapM_toArray, List.mapM_map]
 have hrun : ∀ i ∈ is, ((fun r => match r with | .tmp t => pure (tmps.getD t undef) | .cell a t => do loadVar t (← asAddr (tmps.getD a undef))) (resVar n cells i) : Sem Value).run P w = .ok ((tmps ++ vals.toArray).getD i undef) w := fun i _ => by
  unfold resVar
  cases h1 : Nat.ble n i with
  | false =>
   have h2 : i < n := by
    rcases Nat.lt_or_ge i n with h | h
    ·exact h
    ·rw [Nat.ble_eq_true_of_le h] at h1; cases h1
   simp only [Sem.run_pure]
   congr 1
   simp [Array.getD_eq_getD_getElem?, Array.getElem?_append, hn, h2]
  | true =>
   have h2 : n ≤ i := Nat.le_of_ble_eq_true h1
   cases h3 : cells[i - n]? with
   | none =>
    simp only [Sem.run_pure]
    congr 1
    have h4 : vals[i - n]? = none := by
     rw [List.getElem?_eq_none_iff] at h3 ⊢
     omega
    simp [Array.getD_eq_getD_getElem?, Array.getElem?_append, hn, Nat.not_lt.2 h2, h4]
   | some c =>
    obtain ⟨b, t⟩ := c
    obtain ⟨_, q, v, m2, m3, m4⟩ := hc _ _ _ h3
    have hbn : b < n := hb (b, t) (List.mem_of_getElem? h3)
    rw [Array.getElem?_append_left (by omega)] at m2
    have e1 : tmps.getD b undef = .pointer (some q) := by simp [Array.getD_eq_getD_getElem?, m2]
    simp only [e1, asAddr, pure_bind, m4]
    congr 1
    simp [Array.getD_eq_getD_getElem?, Array.getElem?_append, hn, Nat.not_lt.2 h2, m3]
 have hm := mapM_run (P := P) (w := w) _ (fun i => (tmps ++ vals.toArray).getD i undef) is hrun
 simp only [map_eq_pure_bind, bind_assoc, pure_bind, Sem.run_bind]
 erw [hm]
 simp only [Result.andThen_ok]
 cases is with
 | nil => rfl
 | cons i is =>
  cases is with
  | nil => rfl
  | cons j is =>
   rw [dif_neg (by simp)]
   rfl
theorem resRep_of : ∀ (rs : List RM) (is : List Nat) {v : RDen rs} {tmps : Array Value} {ris : List RI}, ResRepL F' w ρ rs v (is.map fun i => tmps.getD i undef) ris → ResRep F' w ρ rs v (retVal tmps is) ris
 | [], is, v, tmps, ris, h => h.2
 | [r], [], v, tmps, ris, h => by obtain ⟨x, l, r1, r2, e, _⟩ := h; cases e
 | [r], [i], v, tmps, ris, h => by
  obtain ⟨x, l, r1, r2, e, e2, h1, h2⟩ := h
  cases e
  have : r2 = [] := h2.2
  subst this
  rw [e2, List.append_nil]
  exact h1
 | [r], i :: j :: is, v, tmps, ris, h => by
  obtain ⟨x, l, r1, r2, e, e2, h1, h2⟩ := h
  simp only [List.map_cons, List.cons.injEq] at e
  obtain ⟨rfl, rfl⟩ := e
  cases h2.1
 | r :: q :: rs, [], v, tmps, ris, h => by obtain ⟨x, l, r1, r2, e, _⟩ := h; cases e
 | r :: q :: rs, [i], v, tmps, ris, h => by
  obtain ⟨x, l, r1, r2, e, e0, h1, x2, l2, r3, r4, e2, _⟩ := h
  simp only [List.map_cons, List.map_nil, List.cons.injEq] at e
  obtain ⟨rfl, rfl⟩ := e
  cases e2
 | r :: q :: rs, i :: j :: is, v, tmps, ris, h => ⟨_, rfl, h⟩
def mutIdx : List PM → Nat → Option Nat
 | [], _ => none
 | .mu _ :: _, i => some i
 | .own _ :: ps, i => mutIdx ps (i + 1)
 | .ro _ :: ps, i => mutIdx ps (i + 1)
 | .ownp _ _ :: ps, i => mutIdx ps (i + 1)
def isRoot : Ty → Bool
 | .vec _ => true
 | .bx _ => true
 | _ => false
def PM.muOk : PM → Bool
 | .mu t => isRoot t
 | _ => true
def RootOk : List RI → Option RI → Prop
 | [], none => True
 | [r1], some r => r.sub = [] ∧ (r.c ≠ 0 → ∀ b, r.blk b → r1.blk b)
 | _, _ => False
theorem adr_inj {p q : Nat × Nat} (h : adr p = adr q) : p = q := by
 obtain ⟨a, b⟩ := p
 obtain ⟨c, d⟩ := q
 simp only [adr, Addr.mk.injEq, and_true] at h
 rw [h.1, h.2]
theorem vec_same {F1 G : Nat → Prop} {t : Ty} {v0 u : List t.den} {r r1 : RI} (hk : Kept M W0 w) {ρ1 ρ2 : RK → Option RI} (h0 : ORep F1 W0 ρ1 r ⟨t, v0⟩) (h1 : ORep G w ρ2 r1 ⟨t, u⟩) (hv : r1.val = r.val) : ORep G w ρ2 r ⟨t, u⟩ ∧ (r.c ≠ 0 → r1.A = r.A) := by
 simp only [RI.val, Value.slice.injEq] at hv
 obtain ⟨hraw, hn, hc⟩ := hv
 have hA : r.c ≠ 0 → r1.A = r.A := fun h => by
  rcases h0.raw with h2 | h2
  ·exact absurd h2 h
  ·rcases h1.raw with h3 | h3
   ·exact absurd (hc ▸ h3) h
   ·rw [hraw, h2] at h3
    cases e1 : r.A with
    | none => rw [e1] at h3; cases e2 : r1.A with
     | none => rfl
     | some q => rw [e2] at h3; cases h3
    | some p => rw [e1] at h3; cases e2 : r1.A with
     | none => rw [e2] at h3; cases h3
     | some q => rw [e2] at h3; simp only [Option.map_some, Option.some.injEq] at h3; rw [adr_inj h3]
 refine ⟨⟨by rw [← hn]; exact h1.n, h0.sz, h0.le |> fun _ => by rw [← hn, ← hc]; exact h1.le, h0.pure, h0.none, h0.raw, fun p hp => ?_, fun p hp i x hi => ?_, h0.sub⟩, hA⟩
 ·obtain ⟨cells, el, b1, b2⟩ := h0.block p hp
  obtain ⟨cells', b3, b4⟩ := hk.len _ _ _ _ b1
  exact ⟨cells', el, b3, by rw [b4]; exact b2⟩
 ·have hpos : r.c ≠ 0 := fun h => by
   have h5 := h1.n
   have h6 := h1.le
   have h7 : i < u.length := by
    rcases Nat.lt_or_ge i u.length with h | h
    ·exact h
    ·rw [List.getElem?_eq_none h] at hi; cases hi
   simp only at h5
   omega
  obtain ⟨ds, g1, g2⟩ := h1.cells p (by rw [hA hpos]; exact hp) i x hi
  refine ⟨ds, ?_, g2⟩
  have e1 := h1.sz
  have e0 := h0.sz
  simp only at e1 e0
  rw [e1] at g1
  rwa [e0]
theorem mut_out {own : List MO} {ρa : RK → Option RI} {rs : List RM} {is : List Nat} (hk : Kept M W0 w) : ∀ (ps : List PM) (v0 : PDen ps) (args : List Value) (ris0 : List RI) (k : Nat) {x : SDen (mutSl rs is ps k)} {ris : List RI}, ArgsRep F W0 ρa ps v0 args ris0 →
  (∀ j, mutIdx ps k = some j → k ≤ j ∧ a.tmps[j]? = args[j - k]?) → ps.all PM.muOk = true → SlotsR F' w ρ a own (mutSl rs is ps k) x ris →
  ∃ root mrs rrs, ris = root ++ mrs ++ rrs ∧ MutRep F' w (plR ρ) (mutTy ps) (readM rs is ps k x).1 (mutRI ps ris0) mrs ∧ SlotsR F' w ρ a own (outSl rs is) (readM rs is ps k x).2 rrs ∧ RootOk root (mutRI ps ris0)
 | [], v0, args, ris0, k, x, ris, h, ht, hm, hs => ⟨[], [], ris, rfl, rfl, hs, trivial⟩
 | .ro t :: ps, v0, args, ris0, k, x, ris, h, ht, hm, hs => by
  obtain ⟨y, r, rfl, h1, h2, h3⟩ := h
  simp only [List.all_cons, Bool.and_eq_true] at hm
  exact mut_out hk ps v0.2 r ris0 (k + 1) h3 (fun j hj => by
   obtain ⟨g1, g2⟩ := ht j hj
   have hj' : k + 1 ≤ j := by
    have : ∀ (ps : List PM) (k j : Nat), mutIdx ps k = some j → k ≤ j := by
     intro ps
     induction ps with
     | nil => intro k j h; cases h
     | cons p ps ih =>
      intro k j h
      cases p with
      | mu t => simp only [mutIdx, Option.some.injEq] at h; omega
      | ro t => have := ih (k + 1) j h; omega
      | own t => have := ih (k + 1) j h; omega
      | ownp qs t => have := ih (k + 1) j h; omega
    exact this ps (k + 1) j hj
   refine ⟨hj', ?_⟩
   rw [g2, show j - k = (j - (k + 1)) + 1 by omega]; simp) hm.2 hs
 | .own t :: ps, v0, args, ris0, k, x, ris, h, ht, hm, hs => by
  obtain ⟨y, r, r1, r2, rfl, rfl, h2, h3⟩ := h
  simp only [List.all_cons, Bool.and_eq_true] at hm
  have hlen : r1.length = cnt t := h2.len
  have := mut_out hk ps v0.2 r r2 (k + 1) h3 (fun j hj => by
   obtain ⟨g1, g2⟩ := ht j hj
   have hj' : k + 1 ≤ j := by
    have : ∀ (ps : List PM) (k j : Nat), mutIdx ps k = some j → k ≤ j := by
     intro ps
     induction ps with
     | nil => intro k j h; cases h
     | cons p ps ih =>
      intro k j h
      cases p with
      | mu t => simp only [mutIdx, Option.some.injEq] at h; omega
      | ro t => have := ih (k + 1) j h; omega
      | own t => have := ih (k + 1) j h; omega
      | ownp qs t => have := ih (k + 1) j h; omega
    exact this ps (k + 1) j hj
   refine ⟨hj', ?_⟩
   rw [g2, show j - k = (j - (k + 1)) + 1 by omega]; simp) hm.2 hs
  simp only [mutRI]
  rw [List.drop_append_of_le_length (by omega), List.drop_of_length_le (by omega)]
  exact this
 | .ownp qs t :: ps, v0, args, ris0, k, x, ris, h, ht, hm, hs => by
  obtain ⟨y, r, r1, rp, r2, rfl, rfl, h2, _, h3⟩ := h
  simp only [List.all_cons, Bool.and_eq_true] at hm
  have hlen : r1.length = cnt t := h2.len
  have := mut_out hk ps v0.2 r r2 (k + 1) h3 (fun j hj => by
   obtain ⟨g1, g2⟩ := ht j hj
   have hj' : k + 1 ≤ j := by
    have : ∀ (ps : List PM) (k j : Nat), mutIdx ps k = some j → k ≤ j := by
     intro ps
     induction ps with
     | nil => intro k j h; cases h
     | cons p ps ih =>
      intro k j h
      cases p with
      | mu t => simp only [mutIdx, Option.some.injEq] at h; omega
      | ro t => have := ih (k + 1) j h; omega
      | own t => have := ih (k + 1) j h; omega
      | ownp qs t => have := ih (k + 1) j h; omega
    exact this ps (k + 1) j hj
   refine ⟨hj', ?_⟩
   rw [g2, show j - k = (j - (k + 1)) + 1 by omega]; simp) hm.2 hs
  simp only [mutRI]
  rw [drop_cnt1 hlen]
  exact this
 | .mu t :: ps, v0, args, ris0, k, x, ris, h, ht, hm, hs => by
  obtain ⟨y, r, q1, q2, rfl, rfl, h2, h3⟩ := h
  simp only [List.all_cons, Bool.and_eq_true, PM.muOk] at hm
  obtain ⟨r1, r2, e, ⟨val, hv, hsl, hln⟩, h4⟩ := hs
  obtain ⟨hkk, hy⟩ := ht k rfl
  clear hln hkk
  rw [hv] at hy
  simp only [Nat.sub_self, List.getElem?_cons_zero, Option.some.injEq] at hy
  subst hy
  cases t <;> simp only [isRoot, Bool.false_eq_true, false_and] at hm
  case vec t =>
   have hs1 : TRepV F' w (plR ρ) (.vec t) x.1 val r1 := by
    rcases hsl with h5 | ⟨_, c, q, h5, _⟩
    ·exact h5
    ·cases h5
   unfold TRepV at h2 hs1
   rw [if_neg (by simp [isSt])] at h2 hs1
   obtain ⟨_, rr, e1, e2, ho⟩ := h2
   obtain ⟨_, rr1, e3, e4, ho1⟩ := hs1
   subst e1 e3
   have hval : rr1.val = rr.val := by
    simp only [List.cons.injEq, and_true] at e2 e4
    rw [← e2, ← e4]
   obtain ⟨k1, k2⟩ := vec_same hk ho ho1 hval
   refine ⟨[rr1], [], r2, by simpa using e, ⟨rr, rfl, rr, rfl, rfl, k1⟩, h4, ho.sub, fun hc b hb => ?_⟩
   obtain ⟨p, hp, rfl⟩ := blk_nosub ho.sub hb
   exact RI.blkA (by rw [k2 hc]; exact hp)
  case bx t =>
   have hs1 : TRepV F' w (plR ρ) (.bx t) x.1 val r1 := by
    rcases hsl with h5 | ⟨_, c, q, h5, _⟩
    ·exact h5
    ·cases h5
   unfold TRepV at h2 hs1
   rw [if_neg (by simp [isSt])] at h2 hs1
   obtain ⟨_, rr, rs0, p, ds, cells, el, e1, e2, hA, hsub, b1, b2, b3, b4⟩ := h2
   obtain ⟨_, rr1, rs1, p1, ds1, cells1, el1, e3, e4, hA1, hsub1, c1, c2, c3, c4⟩ := hs1
   subst e1 e3
   have hpp : p1 = p := by
    simp only [List.cons.injEq, and_true] at e2 e4
    rw [e2] at e4
    simp only [Value.pointer.injEq, Option.some.injEq] at e4
    exact (adr_inj e4).symm
   subst hpp
   refine ⟨[rr1], rs1, r2, by simpa using e, ⟨rr, rfl, rr, rs1, p1, ds1, cells1, el1, rfl, by rw [rootVal, hA]; rfl, hA, hsub, c1, c2, c3, c4⟩, h4, hsub.1, fun hc b hb => ?_⟩
   obtain ⟨p, hp, rfl⟩ := blk_nosub hsub.1 hb
   rw [hA] at hp; cases hp
   exact RI.blkA hA1
def noWrite (i : Nat) : Code → Bool
 | .region _ ops _ => ops.toList.all fun o => o.dst != some i
 | .seq a b => noWrite i a && noWrite i b
 | .cond _ a b => noWrite i a && noWrite i b
 | .block _ c => noWrite i c
 | .loop c => noWrite i c
 | _ => true
theorem noWrite_keeps {i : Nat} {v : Value} : ∀ (c : Code), noWrite i c = true → Keeps (fun a => a.tmps[i]? = some v) c := by
 intro c
 induction c with
 | region id ops draw =>
  intro h o ho a val ht
  have h1 := List.all_eq_true.1 h o ho
  simp only [bne_iff_ne, ne_eq] at h1
  cases hd : o.dst with
  | none => exact ht
  | some d =>
   have hne : d ≠ i := fun e => h1 (by rw [hd, e])
   simp only [Act.put, Array.getElem?_setIfInBounds_ne hne]
   exact ht
 | seq x y ihx ihy => intro h; simp only [noWrite, Bool.and_eq_true] at h; exact ⟨ihx h.1, ihy h.2⟩
 | cond c x y ihx ihy => intro h; simp only [noWrite, Bool.and_eq_true] at h; exact ⟨ihx h.1, ihy h.2⟩
 | block id c ih => intro h; exact ih h
 | loop c ih => intro h; exact ih h
 | _ => intro _; trivial
theorem keeps_true : ∀ (c : Code), Keeps (fun _ => True) c := by
 intro c
 induction c with
 | region id ops draw => intro o ho a val ht; trivial
 | seq x y ihx ihy => exact ⟨ihx, ihy⟩
 | cond c x y ihx ihy => exact ⟨ihx, ihy⟩
 | block id c ih => exact ih
 | loop c ih => exact ih
 | _ => trivial
def modesOk (c : Ctr) (lp : List (Nat × Ty)) (body : Code) (cells : List (Nat × Nat)) (n : Nat) : Bool :=
 (plsIn lp c.ps && rsOk c.rs && ((rPls c.rs).isEmpty || (mutTy c.ps).isNone)) && (c.rs.all RM.tree && c.ps.all PM.muOk && (cells.all (fun b => Nat.blt b.1 n) && Nat.ble c.ps.length n) && (match mutIdx c.ps 0 with | some i => noWrite i body | none => true))
theorem keeps_and {T U : Act → Prop} : ∀ (c : Code), Keeps T c → Keeps U c → Keeps (fun a => T a ∧ U a) c := by
 intro c
 induction c with
 | region id ops draw => intro h1 h2 o ho a val ht; exact ⟨h1 o ho a val ht.1, h2 o ho a val ht.2⟩
 | seq x y ihx ihy => intro h1 h2; exact ⟨ihx h1.1 h2.1, ihy h1.2 h2.2⟩
 | cond c x y ihx ihy => intro h1 h2; exact ⟨ihx h1.1 h2.1, ihy h1.2 h2.2⟩
 | block id c ih => intro h1 h2; exact ih h1 h2
 | loop c ih => intro h1 h2; exact ih h1 h2
 | _ => intro _ _; trivial
theorem keeps_size {n : Nat} : ∀ (c : Code), Keeps (fun a => a.tmps.size = n) c := by
 intro c
 induction c with
 | region id ops draw =>
  intro o ho a val ht
  cases o.dst with
  | none => exact ht
  | some d => simp only [Act.put, Array.size_setIfInBounds]; exact ht
 | seq x y ihx ihy => exact ⟨ihx, ihy⟩
 | cond c x y ihx ihy => exact ⟨ihx, ihy⟩
 | block id c ih => exact ih
 | loop c ih => exact ih
 | _ => trivial
theorem argsRep_length : ∀ (ps : List PM) (v : PDen ps) (args : List Value) (ris : List RI), ArgsRep F w ρ ps v args ris → args.length = ps.length
 | [], _, _, _, h => by rw [h.1]; rfl
 | .ro t :: ps, v, args, ris, h => by obtain ⟨x, r, rfl, h1, h2, h3⟩ := h; simp [argsRep_length ps v.2 r ris h3]
 | .mu t :: ps, v, args, ris, h => by obtain ⟨x, r, r1, r2, rfl, rfl, h2, h3⟩ := h; simp [argsRep_length ps v.2 r r2 h3]
 | .own t :: ps, v, args, ris, h => by obtain ⟨x, r, r1, r2, rfl, rfl, h2, h3⟩ := h; simp [argsRep_length ps v.2 r r2 h3]
 | .ownp qs t :: ps, v, args, ris, h => by obtain ⟨x, r, r1, rp, r2, rfl, rfl, h2, _, h3⟩ := h; simp [argsRep_length ps v.2 r r2 h3]
theorem mutIdx_arg : ∀ (ps : List PM) (v : PDen ps) (args : List Value) (ris : List RI), ArgsRep F w ρ ps v args ris → ∀ (k i : Nat), mutIdx ps k = some i → k ≤ i ∧ ∃ x, args[i - k]? = some x
 | [], _, _, _, _, k, i, h => by simp [mutIdx] at h
 | .mu t :: ps, v, args, ris, h, k, i, hi => by
  simp only [mutIdx, Option.some.injEq] at hi
  subst hi
  obtain ⟨x, r, r1, r2, rfl, _⟩ := h
  exact ⟨Nat.le_refl _, x, by simp⟩
 | .own t :: ps, v, args, ris, h, k, i, hi => by
  obtain ⟨x, r, r1, r2, rfl, _, _, h3⟩ := h
  obtain ⟨g1, y, g2⟩ := mutIdx_arg ps v.2 r _ h3 (k + 1) i hi
  exact ⟨by omega, y, by rw [show i - k = (i - (k + 1)) + 1 by omega]; simpa using g2⟩
 | .ownp qs t :: ps, v, args, ris, h, k, i, hi => by
  obtain ⟨x, r, r1, rp, r2, rfl, _, _, _, h3⟩ := h
  obtain ⟨g1, y, g2⟩ := mutIdx_arg ps v.2 r _ h3 (k + 1) i hi
  exact ⟨by omega, y, by rw [show i - k = (i - (k + 1)) + 1 by omega]; simpa using g2⟩
 | .ro t :: ps, v, args, ris, h, k, i, hi => by
  obtain ⟨x, r, rfl, h1, h2, h3⟩ := h
  obtain ⟨g1, y, g2⟩ := mutIdx_arg ps v.2 r _ h3 (k + 1) i hi
  exact ⟨by omega, y, by rw [show i - k = (i - (k + 1)) + 1 by omega]; simpa using g2⟩
theorem TRep.blkLt : ∀ (t : Ty) (v : t.den) (cs : List Value) (ris : List RI), TRep F w ρ t v cs ris → ∀ ri ∈ ris, ∀ b, ri.blk b → b < w.heap.size
 | .vec t, xs, cs, ris, ⟨ri, e1, e2, ho⟩, r, hr, b, hb => by
  subst e1
  simp only [List.mem_singleton] at hr
  subst hr
  exact CRep.blkLt (c := .arr ⟨t, xs⟩) ho hb
 | .iter, v, cs, ris, ⟨ri, e1, e2, ho⟩, r, hr, b, hb => by
  subst e1
  simp only [List.mem_singleton] at hr
  subst hr
  exact CRep.blkLt (F := fun _ => True) (ρ := fun _ => none) (c := .it v.1 v.2) ho hb
 | .mpc k t, v, cs, ris, ⟨ri, e1, e2, ho⟩, r, hr, b, hb => by
  subst e1
  simp only [List.mem_singleton] at hr
  subst hr
  exact CRep.blkLt (c := .mp k t v) ho hb
 | .mit k t, v, cs, ris, ⟨ri, e1, e2, ho⟩, r, hr, b, hb => by
  subst e1
  simp only [List.mem_singleton] at hr
  subst hr
  exact CRep.blkLt (c := .mit k t v.1 v.2) ho hb
 | .mpv _, v, cs, ris, ⟨e, _⟩, r, hr, b, hb => by subst e; cases hr
 | .fmp _ _, v, cs, ris, ⟨e, _⟩, r, hr, b, hb => by subst e; cases hr
 | .bx t, v, cs, ris, ⟨ri, rs, p, ds, cells, el, e1, e2, hA, hs, h3, h4, h5, h6⟩, r, hr, b, hb => by
  subst e1
  rcases List.mem_cons.1 hr with rfl | hr
  ·obtain ⟨p', hp, rfl⟩ := blk_nosub hs.1 hb
   rw [hA] at hp; cases hp
   exact heap_lt h3
  ·exact TRep.blkLt t v ds rs h6 r hr b hb
 | .st t, v, cs, ris, h, r, hr, b, hb => TRep.blkLt t v cs ris h r hr b hb
 | .pair x y, v, cs, ris, ⟨c1, c2, r1, r2, e1, e2, h1, h2⟩, r, hr, b, hb => by
  subst e2
  rcases List.mem_append.1 hr with hr | hr
  ·exact TRep.blkLt x _ _ _ h1 r hr b hb
  ·exact TRep.blkLt y _ _ _ h2 r hr b hb
 | .int _, v, cs, ris, ⟨e, _⟩, r, hr, b, hb => by subst e; cases hr
 | .bool, v, cs, ris, ⟨e, _⟩, r, hr, b, hb => by subst e; cases hr
 | .str, v, cs, ris, ⟨e, _⟩, r, hr, b, hb => by subst e; cases hr
 | .unit, v, cs, ris, ⟨e, _⟩, r, hr, b, hb => by subst e; cases hr
 | .slice _, v, cs, ris, ⟨e, _⟩, r, hr, b, hb => by subst e; cases hr
 | .sln _, v, cs, ris, ⟨e, _⟩, r, hr, b, hb => by subst e; cases hr
 | .ptr _, v, cs, ris, ⟨e, _⟩, r, hr, b, hb => by subst e; cases hr
 | .rad _ _, v, cs, ris, ⟨e, _⟩, r, hr, b, hb => by subst e; cases hr
 | .ow _, v, cs, ris, ⟨e, _⟩, r, hr, b, hb => by subst e; cases hr
 | .osl _, v, cs, ris, ⟨e, _⟩, r, hr, b, hb => by subst e; cases hr
 | .oad _ _, v, cs, ris, ⟨e, _⟩, r, hr, b, hb => by subst e; cases hr
 | .clo _ _, v, cs, ris, ⟨e, _⟩, r, hr, b, hb => by subst e; cases hr
 | .tup _, v, cs, ris, ⟨e, _⟩, r, hr, b, hb => by subst e; cases hr
 | .nils, v, cs, ris, ⟨e, _⟩, r, hr, b, hb => by subst e; cases hr
 | .nilp, v, cs, ris, ⟨e, _⟩, r, hr, b, hb => by subst e; cases hr
 | .lost, v, cs, ris, ⟨e, _⟩, r, hr, b, hb => by subst e; cases hr
 | .any, v, cs, ris, ⟨e, _⟩, r, hr, b, hb => by subst e; cases hr
 | .nxt _ _, v, cs, ris, ⟨e, _⟩, r, hr, b, hb => by subst e; cases hr
 | .psl _, v, cs, ris, ⟨e, _⟩, r, hr, b, hb => by subst e; cases hr
 | .pdd _ _, v, cs, ris, ⟨e, _⟩, r, hr, b, hb => by subst e; cases hr
 | .pad _ _, v, cs, ris, ⟨e, _⟩, r, hr, b, hb => by subst e; cases hr
theorem TRepV.blkLt {t : Ty} {v : t.den} {x : Value} {ris : List RI} (h : TRepV F w ρ t v x ris) : ∀ ri ∈ ris, ∀ b, ri.blk b → b < w.heap.size := by
 unfold TRepV at h
 split at h
 ·obtain ⟨cs, _, h⟩ := h; exact TRep.blkLt _ _ _ _ h
 ·exact TRep.blkLt _ _ _ _ h.2
theorem argBlk : ∀ (ps : List PM) (v : PDen ps) (args : List Value) (ris : List RI), ArgsRep F w ρ ps v args ris → ∀ ri ∈ ris, ∀ b, ri.blk b → b < w.heap.size
 | [], _, _, _, h, ri, hr, b, hb => by rw [h.2] at hr; cases hr
 | .ro t :: ps, v, args, ris, h, ri, hr, b, hb => by obtain ⟨x, r, rfl, h1, h2, h3⟩ := h; exact argBlk ps v.2 r ris h3 ri hr b hb
 | .mu t :: ps, v, args, ris, h, ri, hr, b, hb => by
  obtain ⟨x, r, r1, r2, rfl, rfl, h2, h3⟩ := h
  rcases List.mem_append.1 hr with hr | hr
  ·exact h2.blkLt ri hr b hb
  ·exact argBlk ps v.2 r r2 h3 ri hr b hb
 | .own t :: ps, v, args, ris, h, ri, hr, b, hb => by
  obtain ⟨x, r, r1, r2, rfl, rfl, h2, h3⟩ := h
  rcases List.mem_append.1 hr with hr | hr
  ·exact h2.blkLt ri hr b hb
  ·exact argBlk ps v.2 r r2 h3 ri hr b hb
 | .ownp qs t :: ps, v, args, ris, h, ri, hr, b, hb => by
  obtain ⟨x, r, r1, rp, r2, rfl, rfl, h2, h4, h3⟩ := h
  rcases List.mem_append.1 hr with hr | hr
  ·exact h2.blkLt ri hr b hb
  ·rcases List.mem_cons.1 hr with rfl | hr
   ·rcases hb with ⟨p, h5, _⟩ | h5
    ·rw [h4.A.1] at h5; cases h5
    ·obtain ⟨p, i, c, ri', g1, g2, g3⟩ := h4.sub b h5
     obtain ⟨ri2, k1, k2, _⟩ := h4.obj p i c g1
     rw [g2] at k1; cases k1
     exact k2.blkLt g3
   ·exact argBlk ps v.2 r r2 h3 ri hr b hb
theorem mutRI_regs : ∀ (ps : List PM) (v : PDen ps) (args : List Value) (ris : List RI), ArgsRep F w ρ ps v args ris → ps.all PM.muOk = true → ∀ r, mutRI ps ris = some r → r ∈ regsOf ps ris
 | [], _, _, _, _, _, r, h => by cases h
 | .ro t :: ps, v, args, ris, h, hm, r, hr => by
  obtain ⟨x, l, _, _, _, h3⟩ := h
  simp only [List.all_cons, Bool.and_eq_true] at hm
  exact mutRI_regs ps v.2 l ris h3 hm.2 r hr
 | .mu t :: ps, v, args, ris, h, hm, r, hr => by
  obtain ⟨x, l, r1, r2, rfl, rfl, h2, h3⟩ := h
  simp only [List.all_cons, Bool.and_eq_true, PM.muOk] at hm
  have hl := h2.len
  simp only [regsOf, take_cnt hl]
  have h1 : 0 < cnt t := by
   have := hm.1
   cases t <;> simp only [isRoot, Bool.false_eq_true] at this
   ·simp [cnt]
   ·simp [cnt]
  cases r1 with
  | nil => simp only [List.length_nil] at hl; omega
  | cons r0 r1 =>
   simp only [mutRI, List.cons_append, List.head?_cons, Option.some.injEq] at hr
   subst hr
   simp
 | .own t :: ps, v, args, ris, h, hm, r, hr => by
  obtain ⟨x, l, r1, r2, rfl, rfl, h2, h3⟩ := h
  simp only [List.all_cons, Bool.and_eq_true] at hm
  simp only [mutRI, drop_cnt h2.len] at hr
  simp only [regsOf, take_cnt h2.len, drop_cnt h2.len]
  exact List.mem_append.2 (.inr (mutRI_regs ps v.2 l r2 h3 hm.2 r hr))
 | .ownp qs t :: ps, v, args, ris, h, hm, r, hr => by
  obtain ⟨x, l, r1, rp, r2, rfl, rfl, h2, _, h3⟩ := h
  simp only [List.all_cons, Bool.and_eq_true] at hm
  simp only [mutRI, drop_cnt1 h2.len] at hr
  simp only [regsOf, take_cnt h2.len, drop_cnt1 h2.len]
  exact List.mem_append.2 (.inr (mutRI_regs ps v.2 l r2 h3 hm.2 r hr))
theorem out_sub {rs : List RM} {is : List Nat} : ∀ (ps : List PM) (k : Nat) b, b ∈ outSl rs is → b ∈ mutSl rs is ps k
 | [], _, b, h => h
 | .mu _ :: _, _, b, h => List.mem_cons_of_mem _ h
 | .ro _ :: ps, k, b, h => out_sub ps (k + 1) b h
 | .own _ :: ps, k, b, h => out_sub ps (k + 1) b h
 | .ownp _ _ :: ps, k, b, h => out_sub ps (k + 1) b h
theorem mut_sub {rs : List RM} {is : List Nat} : ∀ (ps : List PM) (k : Nat) (T : Ty), mutTy ps = some (.cl T) → ∃ i, (i, T) ∈ mutSl rs is ps k
 | [], _, T, h => by cases h
 | .mu _ :: _, k, T, h => by cases h; exact ⟨k, List.mem_cons_self⟩
 | .ro _ :: ps, k, T, h => mut_sub ps (k + 1) T h
 | .own _ :: ps, k, T, h => mut_sub ps (k + 1) T h
 | .ownp _ _ :: ps, k, T, h => mut_sub ps (k + 1) T h
theorem MutRep.holdP {ρ' : RK → Option RI} : ∀ {mt : Option NK} {v : ODen mt} {o : Option RI} {rs : List RI}, (∀ T, mt = some (.cl T) → ∀ p ∈ T.pls, ∀ i x, ρ (.pl p i) = some x → ρ' (.pl p i) = some x) → MutRep F w ρ mt v o rs → MutRep F w ρ' mt v o rs
 | none, _, _, _, _, h => h
 | some (.cl T), _, _, _, hp, ⟨r, h1, h2⟩ => ⟨r, h1, TRep.holdP _ _ _ _ (hp T rfl) h2⟩
theorem pack_n {n : Nat} {s : St} {t : Tpl} {x : t.X} (h : pack n s t = some x) : s.n = n := by
 unfold pack at h
 split at h
 ·split at h
  ·rename_i hn; simpa using hn
  ·cases h
 ·cases h
theorem fun_ok {f : Nat} {c : Ctr} {fn : Func} {body : Code} {is : List Nat} {cells : List (Nat × Nat)} {H : Nat → Option LH} {fuel : Nat} {lp : List (Nat × Ty)} (hT : TabOk P tb) (hΓ : CtrsOk P Γ) (hm : P.follows .mixedOrders = true) (hf : P.funcs[f]? = some fn) (hb : fn.body = some body)
  (hres : fn.results = (is.map (resVar fn.ntmps cells)).toArray) (hps : modesOk c lp body cells fn.ntmps = true) (hg : ∀ v r, c.g v = some r → semF tb Γ H fuel fn.ntmps body lp c.ps c.rs is cells v = some r) : c.Ok P f := by
 intro v r hgv w F ρ args ris hF ha hap hd
 simp only [modesOk, Bool.and_eq_true] at hps
 obtain ⟨⟨⟨hpls, hrsok⟩, hmn⟩, ⟨⟨m1, m2⟩, m5⟩, m4⟩ := hps
 refine calls_of_wp hf hb ?_
 have hs := hg v r hgv
 obtain ⟨M, hi, hzM, hregs⟩ := init_rel hF hpls ha hap hd fn.ntmps
 simp only [List.size_toArray]
 have hT0 : ∃ T : Act → Prop, Keeps T body ∧ T { tmps := args.toArray ++ Array.replicate (fn.ntmps - args.length) undef, defers := [] } ∧ ∀ a, T a → ∀ i, mutIdx c.ps 0 = some i → 0 ≤ i ∧ a.tmps[i]? = args[i - 0]? := by
  cases hmi : mutIdx c.ps 0 with
  | none => exact ⟨fun _ => True, keeps_true body, trivial, fun _ _ i h => by cases h⟩
  | some i =>
   rw [hmi] at m4
   obtain ⟨_, x, g3⟩ := mutIdx_arg c.ps v args ris ha 0 i hmi
   simp only [Nat.sub_zero] at g3
   refine ⟨fun a => a.tmps[i]? = some x, noWrite_keeps body m4, ?_, fun a h j hj => ?_⟩
   ·have hlt : i < args.length := by
     rcases Nat.lt_or_ge i args.length with h | h
     ·exact h
     ·rw [List.getElem?_eq_none h] at g3; cases g3
    simp [Array.getElem?_append, hlt] at g3 ⊢
    simpa [hlt] using g3
   ·cases hj; exact ⟨Nat.zero_le _, by rw [Nat.sub_zero, g3]; exact h⟩
 obtain ⟨T, hk, ht, hT1⟩ := hT0
 simp only [List.all_eq_true] at m5
 have hal := argsRep_length c.ps v args ris ha
 have hpl : c.ps.length ≤ fn.ntmps := Nat.le_of_ble_eq_true m5.2
 refine sem_law hT hΓ hm body (keeps_and body hk (keeps_size (n := fn.ntmps) body)) hs hi ⟨ht, by simp; omega⟩ fun e s0 F' ρe a0 w' hK hr0 hta0 => ?_
 split at hK
 rotate_left
 ·cases hK
 rename_i s' hld
 have hn0 : s'.n = fn.ntmps + cells.length → s0.n = fn.ntmps := fun h => by have := loadC_n cells hld; omega
 have fin : ∀ X l, pack (fn.ntmps + cells.length) s' ⟨mutSl c.rs is c.ps 0, [], rPls c.rs⟩ = some X → readR c.rs (xP (rPls c.rs) X) is (readM c.rs is c.ps 0 (xS (rPls c.rs) X)).2 = some l → ((readM c.rs is c.ps 0 (xS (rPls c.rs) X)).1, l) = r →
   a0.defers = [] ∧ ∃ v, (results fn a0.tmps).run P w' = .ok v w' ∧ (∃ (val : Value) (Fn : Nat → Prop) (mrs rrs : List RI), Ending.returned v = .returned val ∧ Kept (Blk ris) w w' ∧ (∀ b, Fn b → (w.heap.size ≤ b ∨ Blk ris b) ∧ b < w'.heap.size) ∧
    ResRep (fun b => F b ∨ Fn b) w' (plR ρ) c.rs r.2 val rrs ∧ MutRep (fun b => F b ∨ Fn b) w' (plR ρ) (mutTy c.ps) r.1 (mutRI c.ps ris) mrs ∧
    Apart ((mutRI c.ps ris).toList ++ mrs ++ rrs) ∧ ∀ b, Blk ((mutRI c.ps ris).toList ++ mrs ++ rrs) b → ¬ Fn b ∧ (w.heap.size ≤ b ∨ Blk ris b)) := fun X l hx hl hrr => by
  have hsn : s'.n = fn.ntmps + cells.length := pack_n hx
  obtain ⟨vals, hvl, _, hr, hcs⟩ := loadC_law hT cells hr0 (hta0.2.trans (hn0 hsn).symm) hld
  obtain ⟨F2, own, rs2, rp, h2, ho, hsl, hpr, hap2, hbl2, hin1, hin2⟩ := pack_law' hr hx
  have hag : ∀ t, plIn s' (rPls c.rs) t = true → ∀ p ∈ t.pls, inPl p (rPls c.rs) = false → ∀ i, plR ρ (.pl p i) = ρe (.pl p i) := fun t ht p hp hq i => by
   have h5 := List.all_eq_true.1 ht p hp
   rw [hq, Bool.false_or] at h5
   have hn : s'.pln p = none := by
    unfold St.pln
    cases hq2 : pol s'.pls p with
    | none => rfl
    | some q => rw [hq2] at h5; cases h5
   exact (hr.pfor p i hn).symm
  obtain ⟨root, mrs, rrs, e1, hmr, hsr, hro⟩ := mut_out hr.kept c.ps v args ris 0 ha (fun i hi => by
   obtain ⟨g1, g2⟩ := hT1 a0 hta0.1 i hi
   refine ⟨g1, ?_⟩
   have hlt : i < a0.tmps.size := by
    obtain ⟨_, x, g3⟩ := mutIdx_arg c.ps v args ris ha 0 i hi
    rcases Nat.lt_or_ge i a0.tmps.size with h | h
    ·exact h
    ·rw [g3, Array.getElem?_eq_none h] at g2; cases g2
   rw [Array.getElem?_append_left hlt]; exact g2) m2 hsl
  have hrl := resRep_of c.rs is (res_out (ρc := plR ρ) c.rs is m1 hrsok (fun b hb => hag _ (hin1 b (out_sub _ _ b hb))) (fun b hb => hag _ (hin2 b hb)) hsr hpr hl)
  have hmr := MutRep.holdP (ρ' := plR ρ) (fun T hT p hp i x hx => by
   have hnil : (rPls c.rs).isEmpty = true := by
    rw [hT] at hmn; simpa using hmn
   obtain ⟨j, hj⟩ := mut_sub (rs := c.rs) (is := is) c.ps 0 T hT
   rw [hag T (hin1 _ hj) p hp (by rw [List.isEmpty_iff.1 hnil]; rfl)]; exact hx) hmr
  generalize htl : (if (rPls c.rs).isEmpty = true then [] else [rp]) = tl at hrl
  have hap2 : Apart (rs2 ++ tl) := by
   rw [← htl]
   split
   ·rw [List.append_nil]; exact (Apart.append.1 hap2).1
   ·exact hap2
  have hbl2 : ∀ b, Blk (rs2 ++ tl) b → ¬ F2 b ∧ (w.heap.size ≤ b ∨ M b) := fun b hb => hbl2 b (by
   rw [← htl] at hb
   split at hb
   ·rw [List.append_nil] at hb; exact Blk.append.2 (.inl hb)
   ·exact hb)
  have e1 : rs2 ++ tl = root ++ mrs ++ (rrs ++ tl) := by rw [e1]; simp
  revert hrl e1
  generalize rrs ++ tl = rrs'
  intro hrl e1
  have hFF : ∀ b, F2 b → F b ∨ (F2 b ∧ ¬ F b) := fun b hb => by
   rcases Classical.em (F b) with h | h
   ·exact .inl h
   ·exact .inr ⟨hb, h⟩
  subst hrr
  refine ⟨hr.defers, _, results_run (P := P) hres hta0.2 hvl (by rw [hn0 hsn] at hcs; exact hcs) (fun c hc => by have := m5.1 c hc; rw [Nat.blt_eq] at this; exact this), _, fun b => F2 b ∧ ¬ F b, mrs, rrs', rfl, hr.kept.mono fun k _ hk => (hzM k hk).1, fun b hb => ⟨?_, h2.lt b hb.1⟩, Res_to (.inl hFF) hrl, ?_, ?_, ?_⟩
  ·rcases h2.frm b hb.1 with h5 | h5 | h5
   ·exact absurd h5 hb.2
   ·exact .inl h5
   ·exact .inr (hzM b h5).1
  ·revert hmr
   generalize (readM c.rs is c.ps 0 (xS (rPls c.rs) X)).1 = u
   revert u
   generalize mutTy c.ps = mt
   intro u hmr
   cases mt with
   | none => exact hmr
   | some nk =>
    cases nk with
    | raw t => exact hmr
    | pl t => exact hmr
    | clp ps t => exact hmr
    | cl T => obtain ⟨r0, g1, g2⟩ := hmr; exact ⟨r0, g1, TRep.to _ _ _ _ (.inl hFF) g2⟩
  ·-- where the root was, and is
   rw [e1, List.append_assoc] at hap2
   rw [List.append_assoc]
   obtain ⟨k1, k2, k3⟩ := Apart.append.1 hap2
   refine Apart.append.2 ⟨?_, k2, fun b hb hb2 => ?_⟩
   ·cases mutRI c.ps ris with
    | none => trivial
    | some r0 => exact ⟨fun b _ hb => (by obtain ⟨ri, hm, _⟩ := hb; cases hm), trivial⟩
   ·cases hmi : mutRI c.ps ris with
    | none => rw [hmi] at hb; obtain ⟨ri, hm, _⟩ := hb; cases hm
    | some r0 =>
     rw [hmi] at hb hro
     obtain ⟨ri, hm, hb⟩ := hb
     simp only [Option.toList_some, List.mem_singleton] at hm
     subst hm
     match root, hro with
     | [r1], hro =>
      by_cases hc : ri.c = 0
      ·have hmem := mutRI_regs _ _ _ _ ha m2 _ hmi
       obtain ⟨_, h5⟩ := hbl2 b (by rw [e1, List.append_assoc]; exact Blk.append.2 (.inr hb2))
       rcases h5 with h5 | h5
       ·have := argBlk c.ps v args ris ha ri (hregs _ hmem) b hb
        omega
       ·exact absurd hc ((hzM b h5).2 ri hmem hb)
      ·exact k3 b ⟨r1, by simp, hro.2 hc b hb⟩ hb2
  ·intro b hb
   rw [List.append_assoc] at hb
   have hM : ∀ b, (w.heap.size ≤ b ∨ M b) → (w.heap.size ≤ b ∨ Blk ris b) := fun b h => h.imp (fun h => h) fun h => (hzM b h).1
   rcases Blk.append.1 hb with hb | hb
   ·cases hmi : mutRI c.ps ris with
    | none => rw [hmi] at hb; obtain ⟨ri, hm, _⟩ := hb; cases hm
    | some r0 =>
     rw [hmi] at hb hro
     obtain ⟨ri, hm, hb⟩ := hb
     simp only [Option.toList_some, List.mem_singleton] at hm
     subst hm
     have hmem := mutRI_regs _ _ _ _ ha m2 _ hmi
     refine ⟨fun hf => ?_, .inr ⟨ri, hregs _ hmem, hb⟩⟩
     match root, hro with
     | [r1], hro =>
      by_cases hc : ri.c = 0
      ·rcases h2.frm b hf.1 with h5 | h5 | h5
       ·exact hf.2 h5
       ·have := argBlk c.ps v args ris ha ri (hregs _ hmem) b hb
        omega
       ·exact absurd hc ((hzM b h5).2 ri hmem hb)
      ·exact (hbl2 b (by rw [e1, List.append_assoc]; exact Blk.append.2 (.inl ⟨r1, by simp, hro.2 hc b hb⟩))).1 hf.1
   ·obtain ⟨g1, g2⟩ := hbl2 b (by rw [e1, List.append_assoc]; exact Blk.append.2 (.inr hb))
    exact ⟨fun hf => g1 hf.1, hM b g2⟩
 have both : ∀ e, (e = .normal ∨ e = .ret) → funK (fn.ntmps + cells.length) c.ps c.rs is e s' = some r → ∃ X l, pack (fn.ntmps + cells.length) s' ⟨mutSl c.rs is c.ps 0, [], rPls c.rs⟩ = some X ∧ readR c.rs (xP (rPls c.rs) X) is (readM c.rs is c.ps 0 (xS (rPls c.rs) X)).2 = some l ∧ ((readM c.rs is c.ps 0 (xS (rPls c.rs) X)).1, l) = r := fun e he h => by
  rcases he with rfl | rfl
  all_goals
   simp only [funK] at h
   split at h
   ·rename_i x hx
    split at h
    ·rename_i l hl
     cases h
     exact ⟨x, l, hx, hl, rfl⟩
    ·cases h
   ·cases h
 cases e with
 | exit n => cases hK
 | normal =>
  obtain ⟨x, l, h1, h2, h3⟩ := both _ (.inl rfl) hK
  exact fin x l h1 h2 h3
 | ret =>
  obtain ⟨x, l, h1, h2, h3⟩ := both _ (.inr rfl) hK
  exact fin x l h1 h2 h3
end Go.Vu
