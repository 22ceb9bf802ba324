/- Own program logic, part 6: operations in a region, one behind the other. -/
import Derived.Test.YtjcbjclhagobiaaDoorKe
import Derived.Orders
namespace Go.KL
open Go

def setd : Option Nat → Value → Tm → Tm
  | some d, v, L => (d, v) :: L
  | none, _, L => L
def putd : Option Nat → Value → Array Value → Array Value
  | some d, v, a => a.setIfInBounds d v
  | none, _, a => a
theorem look_cons {d t : Nat} {v : Value} {L : Tm} : look ((d, v) :: L) t = if d = t then some v else look L t := by
  show cond (Nat.beq d t) _ _ = _
  cases h : Nat.beq d t with
  | true => have := Nat.eq_of_beq_eq_true h; simp [this]
  | false => have := Nat.ne_of_beq_eq_false h; simp [this]

theorem ok_set {L : Tm} {n d : Nat} {tmps : Array Value} {v : Value} (h : L.ok n tmps) (hd : d < n) : Tm.ok ((d, v) :: L) n (tmps.setIfInBounds d v) := by
  refine ⟨by simp [h.size], fun t x e => ?_⟩
  rw [look_cons] at e
  by_cases c : d = t
  · subst c; simp only [if_true] at e; cases e
    simp [h.size, hd]
  · simp only [c, if_false] at e
    rw [Array.getElem?_setIfInBounds]
    simp only [c, if_false]; exact h.h t x e

/-- Is an operation wanted? -/
def dstAt : List Oper → Nat → Option Nat
  | [], _ => none
  | o :: _, 0 => o.dst
  | _ :: l, n + 1 => dstAt l n
theorem dstAt_eq : ∀ (l : List Oper) (j : Nat), (l[j]?).bind (·.dst) = dstAt l j
  | [], _ => rfl
  | _ :: _, 0 => rfl
  | _ :: l, n + 1 => by rw [List.getElem?_cons_succ, dstAt_eq l n, dstAt]
def Want (L : Tm) (l : List Oper) (o : Oper) (y : Bool) : Prop :=
  match o.guard with
  | none => y = true
  | some (j, w) => ∃ d, dstAt l j = some d ∧ ((∃ q, look L d = some (.bool q) ∧ y = (q == w)) ∨ (look L d = some undef ∧ y = false))
/-- The slot on which a guard looks. -/
def guardAt (l : List Oper) (o : Oper) : List Nat := match o.guard with
  | none => []
  | some (j, _) => (dstAt l j).toList
theorem want_is {L : Tm} {tmps : Array Value} {l : List Oper} {o : Oper} {y : Bool} (h : ∀ t ∈ guardAt l o, ∀ v, look L t = some v → tmps[t]? = some v) (w : Want L l o y) : Region.wanted o (yielded l.toArray tmps) = y := by
  unfold Want at w; unfold Region.wanted; unfold guardAt at h
  cases hg : o.guard with
  | none => rw [hg] at w; exact w.symm
  | some p =>
    obtain ⟨j, ww⟩ := p
    rw [hg] at w
    simp only [hg] at h
    obtain ⟨d, h1, w⟩ := w
    have e0 : (l.toArray[j]?).bind (·.dst) = some d := by rw [← h1, ← dstAt_eq]; simp
    rw [h1] at h
    have h := h d (by simp)
    rcases w with ⟨q, h2, rfl⟩ | ⟨h2, rfl⟩
    · have : yielded l.toArray tmps j = some q := by
        unfold yielded; rw [e0]
        show (match tmps[d]? with | some (.bool b) => some b | _ => none) = _
        rw [h _ h2]
      simp only [this]
      cases q <;> cases ww <;> rfl
    · have : yielded l.toArray tmps j = none := by
        unfold yielded; rw [e0]
        show (match tmps[d]? with | some (.bool b) => some b | _ => none) = _
        rw [h _ h2]; rfl
      simp only [this]
      rfl
section
variable {L : Tm} {l : List Oper} {o : Oper} {j d : Nat} {q : Bool}
theorem want_t (hg : o.guard = some (j, true)) (hd : dstAt l j = some d) (hl : look L d = some (.bool q)) (h : q = true) : Want L l o true := by
  unfold Want; rw [hg]; exact ⟨d, hd, .inl ⟨q, hl, by rw [h]; rfl⟩⟩
theorem want_f (hg : o.guard = some (j, false)) (hd : dstAt l j = some d) (hl : look L d = some (.bool q)) (h : q = false) : Want L l o true := by
  unfold Want; rw [hg]; exact ⟨d, hd, .inl ⟨q, hl, by rw [h]; rfl⟩⟩
theorem unwant_t (hg : o.guard = some (j, true)) (hd : dstAt l j = some d) (hl : look L d = some (.bool q)) (h : q = false) : Want L l o false := by
  unfold Want; rw [hg]; exact ⟨d, hd, .inl ⟨q, hl, by rw [h]; rfl⟩⟩
theorem unwant_f (hg : o.guard = some (j, false)) (hd : dstAt l j = some d) (hl : look L d = some (.bool q)) (h : q = true) : Want L l o false := by
  unfold Want; rw [hg]; exact ⟨d, hd, .inl ⟨q, hl, by rw [h]; rfl⟩⟩
theorem unwant_u {w : Bool} (hg : o.guard = some (j, w)) (hd : dstAt l j = some d) (hl : look L d = some undef) : Want L l o false := by
  unfold Want; rw [hg]; exact ⟨d, hd, .inr ⟨hl, rfl⟩⟩
end

theorem drop_head {α : Type} {l r : List α} {n : Nat} {a : α} (h : l.drop n = a :: r) : l[n]? = some a ∧ l.drop (n + 1) = r := by
  constructor
  · have := List.getElem?_drop (xs := l) (i := n) (j := 0)
    rw [h] at this; simpa using this.symm
  · rw [← List.drop_drop, h]; rfl

section
variable {P : Program} {E : Env} {X : Xs} {b : Fx} {Post : Value → List HP → Prop} {k : List Item} {L : Tm} {s : List HP}

theorem blt_lt {d n : Nat} (h : Nat.blt d n = true) : d < n := by simpa [Nat.blt_eq] using h
def ltd : Option Nat → Nat → Bool
  | some d, n => Nat.blt d n
  | none, _ => true
def Op.isDefer : Op → Bool
  | .defer _ => true
  | _ => false

theorem step_oper {tmps : Array Value} {cs : List Frame} {w : World} {all : Array Oper} {i : Nat} {is : List Nat} {o : Oper} (h : all[i]? = some o) (hw : Region.wanted o (yielded all tmps) = true) (hd : b.roundOf = none ∨ Op.isDefer o.op = false) :
    stepG P true (G (b.at tmps (.inRegion all (i :: is) :: k)) cs) w = stepG.apply P true (b.at tmps (.inRegion all (i :: is) :: k)) cs none (execOp (b.at tmps (.inRegion all (i :: is) :: k)).eval o) w := by
  show (if ((all[i]?).map (Region.wanted · (yielded all tmps))).getD false then _ else _) = _
  rw [h]
  simp only [Option.map_some, Option.getD_some, hw, if_true]
  show (match (all[i]? : Option Oper) with | none => _ | some o => _) = _
  rw [h]
  simp only
  rcases hd with hd | hd
  · simp only [Fx.at, hd]
  · cases ho : o.op <;> simp only [Op.isDefer, ho] at hd <;> first | (cases hd; done) | (cases hr : b.roundOf <;> simp only [Fx.at, hr])

theorem step_unwanted {tmps : Array Value} {cs : List Frame} {w : World} {all : Array Oper} {i : Nat} {is : List Nat} {o : Oper} (h : all[i]? = some o) (hw : Region.wanted o (yielded all tmps) = false) :
    stepG P true (G (b.at tmps (.inRegion all (i :: is) :: k)) cs) w = .go (G ((b.at tmps (.inRegion all (i :: is) :: k)).finish undef) cs) w := by
  show (if ((all[i]?).map (Region.wanted · (yielded all tmps))).getD false then _ else _) = _
  rw [h]
  simp only [Option.map_some, Option.getD_some, hw]
  rfl

theorem finish_at {tmps : Array Value} {all : Array Oper} {i : Nat} {is : List Nat} {o : Oper} {v : Value} (h : all[i]? = some o) :
    (b.at tmps (.inRegion all (i :: is) :: k)).finish v = b.at (putd o.dst v tmps) (.inRegion all is :: k) := by
  show (({ b.at tmps (.inRegion all (i :: is) :: k) with tmps := match (all[i]?).bind (·.dst) with | some d => tmps.setIfInBounds d v | none => tmps, todo := .inRegion all is :: k } : Frame)) = _
  rw [h]
  show _ = ({ b.at tmps (.inRegion all (i :: is) :: k) with tmps := putd o.dst v tmps, todo := .inRegion all is :: k } : Frame)
  cases hh : o.dst <;> simp [hh, putd]
theorem ok_setd {n : Nat} {tmps : Array Value} {v : Value} {d : Option Nat} (h : L.ok n tmps) (hd : ∀ x, d = some x → x < n) : (setd d v L).ok n (putd d v tmps) := by
  cases d with
  | none => exact h
  | some d => exact ok_set h (hd d rfl)

theorem ltd_lt' {d : Option Nat} {n : Nat} (h : ltd d n = true) : ∀ x, d = some x → x < n := by
  intro x e; subst e; simpa [ltd, Nat.blt_eq] using h
/-- What stands in the slots that an operation reads. -/
theorem ev_evalO {tmps : Array Value} {todo : List Item} {o : Oper} (h : ∀ t, Operand.tmp t ∈ o.op.operands → ∀ v, look L t = some v → tmps[t]? = some v) {x : Operand} {v : Value} (hx : x ∈ o.op.operands) (e : ev L x = some v) : (b.at tmps todo).eval x = v := by
  cases x with
  | tmp t =>
    have := h t hx v e
    show tmps.getD t undef = v
    simp [Array.getD_eq_getD_getElem?, this]
  | const c => cases e; rfl
  | global g => cases e; rfl
  | func g => cases e; rfl

/-- What one operation does, wherever it stands. -/
def Ex (P : Program) (E : Env) (X : Xs) (b : Fx) (L : Tm) (s : List HP) (o : Oper) (Q : Value → List HP → Prop) : Prop :=
  ∀ (K : Goroutine → Hp → Hp → Prop) (cs : List Frame) (F : List HP) (l : List Oper) (i : Nat) (is : List Nat) (k : List Item) (tmps : Array Value) (r f : Hp),
    l.toArray[i]? = some o → Region.wanted o (yielded l.toArray tmps) = true →
    (∀ t, Operand.tmp t ∈ o.op.operands → ∀ v, look L t = some v → tmps[t]? = some v) → sep (s ++ F) r f →
    (∀ v s' r' f', Q v s' → sep (s' ++ F) r' f' → Safe P E X K (G (b.at (putd o.dst v tmps) (.inRegion l.toArray is :: k)) cs) r' f') →
    Safe P E X K (G (b.at tmps (.inRegion l.toArray (i :: is) :: k)) cs) r f
theorem Ex.mono {o : Oper} {Q R : Value → List HP → Prop} (h : Ex P E X b L s o Q) (g : ∀ v s', Q v s' → R v s') : Ex P E X b L s o R :=
  fun K cs F l i is k tmps r f h1 h2 h3 h4 h5 => h K cs F l i is k tmps r f h1 h2 h3 h4 fun v s' r' f' q => h5 v s' r' f' (g v s' q)
/-- It computes v. -/
def Cm (P : Program) (L : Tm) (o : Oper) (v : Value) : Prop := ∀ e', (∀ x ∈ o.op.operands, ∀ v, ev L x = some v → e' x = v) → Calm P (execOp e' o) (.value v)
/-- It reads v. -/
def Lt (P : Program) (E : Env) (L : Tm) (s : List HP) (o : Oper) (v : Value) : Prop := ∀ e', (∀ x ∈ o.op.operands, ∀ v, ev L x = some v → e' x = v) → T P E (execOp e' o) s (fun nx s' => nx = .value v ∧ s' = s)
theorem Cm.lt {o : Oper} {v : Value} (h : Cm P L o v) : Lt P E L s o v := fun e' he => T.calm (h e' he) ⟨rfl, rfl⟩

def notSel : Op → Bool
  | .select .. => false
  | _ => true
theorem notSel_ne {op : Op} (h : notSel op = true) : ∀ cs b, op ≠ .select cs b := by
  intro cs b e; subst e; cases h
theorem hybrid {o : Oper} (hns : notSel o.op = true) {e' : Operand → Value} (he : ∀ x ∈ o.op.operands, ∀ v, ev L x = some v → e' x = v) : ∃ e'', (∀ x v, ev L x = some v → e'' x = v) ∧ execOp e' o = execOp e'' o := by
  classical
  refine ⟨fun x => if x ∈ o.op.operands then e' x else (ev L x).getD undef, fun x v hv => ?_, execOp_congr o (notSel_ne hns) fun x hx => by simp [hx]⟩
  by_cases hx : x ∈ o.op.operands
  · simp only [hx, if_true]; exact he x hx v hv
  · simp [hx, hv]
theorem Cm.of {o : Oper} {v : Value} (hns : notSel o.op = true) (h : ∀ e', (∀ x v, ev L x = some v → e' x = v) → Calm P (execOp e' o) (.value v)) : Cm P L o v := fun e' he => by
  obtain ⟨e'', h1, h2⟩ := hybrid hns he
  rw [h2]; exact h e'' h1
theorem Lt.of {o : Oper} {v : Value} (hns : notSel o.op = true) (h : ∀ e', (∀ x v, ev L x = some v → e' x = v) → T P E (execOp e' o) s (fun nx s' => nx = .value v ∧ s' = s)) : Lt P E L s o v := fun e' he => by
  obtain ⟨e'', h1, h2⟩ := hybrid hns he
  rw [h2]; exact h e'' h1
theorem kept_evs {w w' : World} {r f r' f' : Hp} {es es' : Array Event} (h : Kept E w r f w' es r' f') (k : ∀ e ∈ es', e ∈ es) : Kept E w r f w' es' r' f' :=
  ⟨h.sat, h.ro, h.size, h.keep, h.fresh, h.roFresh, fun e he => h.evs e (k e he)⟩

/-- An operation that yields a value, or none. -/
theorem Ex.opO {o : Oper} {Q : Value → List HP → Prop} (hnd : b.roundOf = none ∨ Op.isDefer o.op = false)
    (ht : ∀ e', (∀ x ∈ o.op.operands, ∀ v, ev L x = some v → e' x = v) → T P E (execOp e' o) s (fun nx s' => ∃ v, (nx = .value v ∨ nx = .skip ∧ v = undef) ∧ Q v s')) : Ex P E X b L s o Q := by
  intro K cs F l i is k tmps r f h hw ha hs g
  refine .next rfl fun w hsat => ?_
  obtain ⟨nx, w', es, r', f', s', e1, k1, ⟨v, hv, q1⟩, s1⟩ := ht (b.at tmps (.inRegion l.toArray (i :: is) :: k)).eval (fun x hx v e => ev_evalO ha hx e) w r f F #[] hsat hs
  have g1 := g v s' r' f' q1 s1
  have hes : (#[] : Array Event) ++ es = es := by simp
  rw [hes] at e1
  have : ∃ es', (∀ e ∈ es', e ∈ es) ∧ stepG P true (G (b.at tmps (.inRegion l.toArray (i :: is) :: k)) cs) w = .go (G ((b.at tmps (.inRegion l.toArray (i :: is) :: k)).finish v) cs) w' es' := by
    rw [step_oper h hw hnd]
    unfold stepG.apply
    simp only [if_true, e1]
    rcases hv with rfl | ⟨rfl, rfl⟩
    all_goals
      refine ⟨seen P b.fn (if b.kind == .early then #[] else es), fun e he => ?_, ?_⟩
      · have := mem_seen he
        split at this
        · simp at this
        · exact this
      · simp only [GStep.after]
        rfl
  obtain ⟨es', hsub, hst⟩ := this
  refine ⟨_, w', es', r', f', hst, kept_evs k1 hsub, ?_⟩
  rw [finish_at h]
  exact g1
theorem Ex.op {o : Oper} {Q : Value → List HP → Prop} (hns : notSel o.op = true) (hnd : b.roundOf = none ∨ Op.isDefer o.op = false)
    (ht : ∀ e', (∀ x v, ev L x = some v → e' x = v) → T P E (execOp e' o) s (fun nx s' => ∃ v, (nx = .value v ∨ nx = .skip ∧ v = undef) ∧ Q v s')) : Ex P E X b L s o Q :=
  Ex.opO hnd fun e' he => by
    obtain ⟨e'', h1, h2⟩ := hybrid hns he
    rw [h2]; exact ht e'' h1
theorem Lt.ex {o : Oper} {v : Value} (hnd : b.roundOf = none ∨ Op.isDefer o.op = false) (h : Lt P E L s o v) : Ex P E X b L s o (fun u s' => u = v ∧ s' = s) :=
  Ex.opO hnd fun e' he => T.cons (h e' he) fun nx s' ⟨e1, e2⟩ => ⟨v, .inl e1, rfl, e2⟩

/-- What is left of a region. -/
def WL (P : Program) (E : Env) (X : Xs) (b : Fx) (Post : Value → List HP → Prop) (l rest : List Oper) (k : List Item) (L : Tm) (s : List HP) : Prop :=
  ∀ n, l.drop n = rest → W P E X b Post (.inRegion l.toArray (List.range' n rest.length) :: k) L s

theorem W.opsL {i : Nat} {l : List Oper} (g : WL P E X b Post l l k L s) : W P E X b Post (.code (.region i l.toArray false) :: k) L s := by
  refine W.region ?_
  have := g 0 rfl
  rw [List.range_eq_range']
  simpa using this
section
variable {l rest : List Oper} {o : Oper} {d : Nat} {op : Op} {ty : TypeId} {pos : String} {af : Array Edge} {gd : Option (Nat × Bool)}
theorem WL.done (g : W P E X b Post k L s) : WL P E X b Post l [] k L s := fun _ _ => W.endRegion g
theorem WL.ex {Q : Value → List HP → Prop} (hw : Want L l o true) (hd : ltd o.dst b.n = true) (h : Ex P E X b L s o Q) (g : ∀ v s', Q v s' → WL P E X b Post l rest k (setd o.dst v L) s') : WL P E X b Post l (o :: rest) k L s := by
  intro n hrest K cs F hr tmps r f hok hs
  obtain ⟨h1, h2⟩ := drop_head hrest
  have e : List.range' n (o :: rest).length = n :: List.range' (n + 1) rest.length := by simp [List.range'_succ]
  rw [e]
  refine h K cs F l n _ k tmps r f (by simpa using h1) (want_is (fun t _ v e => hok.h t v e) hw) (fun t _ v e => hok.h t v e) hs fun v s' r' f' q hs' => ?_
  exact g v s' q (n + 1) h2 K cs F hr _ r' f' (ok_setd hok (ltd_lt' hd)) hs'
theorem WL.skip (hw : Want L l ⟨some d, op, ty, pos, af, gd⟩ false) (hd : Nat.blt d b.n = true) (g : WL P E X b Post l rest k ((d, undef) :: L) s) : WL P E X b Post l (⟨some d, op, ty, pos, af, gd⟩ :: rest) k L s := by
  intro n hrest
  obtain ⟨h1, h2⟩ := drop_head hrest
  have e : List.range' n ((⟨some d, op, ty, pos, af, gd⟩ : Oper) :: rest).length = n :: List.range' (n + 1) rest.length := by simp [List.range'_succ]
  rw [e]
  intro K cs F hr tmps r f hok hs
  have h1 : l.toArray[n]? = some (⟨some d, op, ty, pos, af, gd⟩ : Oper) := by simpa using h1
  refine .idle rfl (fun w => step_unwanted h1 (want_is (fun t _ v e => hok.h t v e) hw)) ?_
  rw [finish_at h1]
  exact g (n + 1) h2 K cs F hr _ r f (ok_setd (d := some d) hok (fun x hx => by cases hx; exact blt_lt hd)) hs
theorem WL.cm {v : Value} (hw : Want L l ⟨some d, op, ty, pos, af, gd⟩ true) (hnd : Op.isDefer op = false) (hd : Nat.blt d b.n = true) (h : Cm P L ⟨some d, op, ty, pos, af, gd⟩ v) (g : WL P E X b Post l rest k ((d, v) :: L) s) : WL P E X b Post l (⟨some d, op, ty, pos, af, gd⟩ :: rest) k L s :=
  WL.ex hw hd (h.lt.ex (.inr hnd)) fun u s' ⟨e1, e2⟩ => by rw [e1, e2]; exact g
theorem WL.lt {v : Value} (hw : Want L l ⟨some d, op, ty, pos, af, gd⟩ true) (hnd : Op.isDefer op = false) (hd : Nat.blt d b.n = true) (h : Lt P E L s ⟨some d, op, ty, pos, af, gd⟩ v) (g : WL P E X b Post l rest k ((d, v) :: L) s) : WL P E X b Post l (⟨some d, op, ty, pos, af, gd⟩ :: rest) k L s :=
  WL.ex hw hd (h.ex (.inr hnd)) fun u s' ⟨e1, e2⟩ => by rw [e1, e2]; exact g

/-- More slots are known. -/
structure Sub (L' L : Tm) : Prop where
  h : ∀ t v, look L' t = some v → look L t = some v
theorem Sub.refl : Sub L L := ⟨fun _ _ h => h⟩
theorem Sub.skip {L' : Tm} {d : Nat} {v : Value} (h : look L' d = none) (g : Sub L' L) : Sub L' ((d, v) :: L) := ⟨fun t u e => by
  rw [look_cons]
  by_cases c : d = t
  · subst c; rw [h] at e; cases e
  · simp only [c, if_false]; exact g.h t u e⟩
theorem Sub.cons {L' : Tm} {d : Nat} {v : Value} (g : Sub L' L) : Sub ((d, v) :: L') ((d, v) :: L) := ⟨fun t u e => by
  rw [look_cons] at e ⊢
  by_cases c : d = t
  · simp only [c, if_true] at e ⊢; exact e
  · simp only [c, if_false] at e ⊢; exact g.h t u e⟩
theorem WL.close {L' : Tm} (gk : WL P E X b Post l rest k L' s) (hL : Sub L' L) : WL P E X b Post l rest k L s :=
  fun n hn => W.weaken hL.h (fun _ _ h => h) (gk n hn)
/-- Short ways. -/
def guardOf (l : List Oper) : List Oper → Option (Nat × Bool)
  | [] => none
  | o :: _ => match o.guard with
    | none => none
    | some (j, w) => match dstAt l j with
      | none => none
      | some d => some (d, w)
def cutPick (c : Nat) : List Oper → Option (Nat × List Oper)
  | [] => none
  | o :: r => match o.dst, o.op with
    | some d, .pick (.tmp e) _ _ => if e = c then some (d, r) else cutPick c r
    | _, _ => cutPick c r
theorem WL.orG {rest' : List Oper} {c d : Nat} {q y : Bool} (hg : guardOf l rest = some (c, false)) (hq : look L c = some (.bool q)) (hc : cutPick c rest = some (d, rest'))
    (hF : q = false → WL P E X b Post l rest' k ((d, .bool (q || y)) :: L) s → WL P E X b Post l rest k L s)
    (hT : q = true → WL P E X b Post l rest' k ((d, .bool (q || y)) :: L) s → WL P E X b Post l rest k L s)
    (g : WL P E X b Post l rest' k ((d, .bool (q || y)) :: L) s) : WL P E X b Post l rest k L s := by
  cases q
  · exact hF rfl g
  · exact hT rfl g
theorem WL.andG {rest' : List Oper} {c d : Nat} {q y : Bool} (hg : guardOf l rest = some (c, true)) (hq : look L c = some (.bool q)) (hc : cutPick c rest = some (d, rest'))
    (hT : q = true → WL P E X b Post l rest' k ((d, .bool (q && y)) :: L) s → WL P E X b Post l rest k L s)
    (hF : q = false → WL P E X b Post l rest' k ((d, .bool (q && y)) :: L) s → WL P E X b Post l rest k L s)
    (g : WL P E X b Post l rest' k ((d, .bool (q && y)) :: L) s) : WL P E X b Post l rest k L s := by
  cases q
  · exact hF rfl g
  · exact hT rfl g
theorem WL.orY {L' : Tm} {q y : Bool} (h : q = false) (gk : WL P E X b Post l rest k ((d, .bool (q || y)) :: L') s) (hL : Sub L' L) : WL P E X b Post l rest k ((d, .bool y) :: L) s := by
  subst h; exact WL.close gk (by rw [Bool.false_or]; exact hL.cons)
theorem WL.orN {L' : Tm} {q y : Bool} (h : q = true) (gk : WL P E X b Post l rest k ((d, .bool (q || y)) :: L') s) (hL : Sub L' L) : WL P E X b Post l rest k ((d, .bool true) :: L) s := by
  subst h; exact WL.close gk (by rw [Bool.true_or]; exact hL.cons)
theorem WL.andY {L' : Tm} {q y : Bool} (h : q = true) (gk : WL P E X b Post l rest k ((d, .bool (q && y)) :: L') s) (hL : Sub L' L) : WL P E X b Post l rest k ((d, .bool y) :: L) s := by
  subst h; exact WL.close gk (by rw [Bool.true_and]; exact hL.cons)
theorem WL.andN {L' : Tm} {q y : Bool} (h : q = false) (gk : WL P E X b Post l rest k ((d, .bool (q && y)) :: L') s) (hL : Sub L' L) : WL P E X b Post l rest k ((d, .bool false) :: L) s := by
  subst h; exact WL.close gk (by rw [Bool.false_and]; exact hL.cons)
end
end
end Go.KL
