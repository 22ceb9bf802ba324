/- Own program logic, part 1: partial heaps, assertions, what a goroutine relies on and keeps, safe runs. -/
import Derived.Conc.Own
import Derived.KernelRfl
namespace Go.KL
open Go

abbrev Hp := Nat → Option Obj
structure Hp.le (a b : Hp) : Prop where
  h : ∀ n o, a n = some o → b n = some o
structure Hp.disj (a b : Hp) : Prop where
  h : ∀ n, a n = none ∨ b n = none
def Hp.emp : Hp := fun _ => none
def Hp.union (a b : Hp) : Hp := fun n => (a n).or (b n)
def Hp.one (n : Nat) (o : Obj) : Hp := fun m => if m = n then some o else none
def Hp.cell (h : Hp) (a : Addr) : Option Value :=
  match h a.block with
  | some (.cells c _ _) => if a.spot.isSome then none else c[a.off]?
  | _ => none
theorem Hp.le_refl (a : Hp) : a.le a := ⟨fun _ _ h => h⟩
theorem Hp.le.trans {a b c : Hp} (h : a.le b) (k : b.le c) : a.le c := ⟨fun n o e => k.h n o (h.h n o e)⟩
theorem Hp.disj.symm {a b : Hp} (h : a.disj b) : b.disj a := ⟨fun n => (h.h n).symm⟩
theorem Hp.disj_emp (a : Hp) : a.disj Hp.emp := ⟨fun _ => .inr rfl⟩
theorem Hp.emp_disj (a : Hp) : Hp.emp.disj a := ⟨fun _ => .inl rfl⟩
theorem Hp.emp_le (a : Hp) : Hp.emp.le a := ⟨fun _ _ h => by cases h⟩
theorem Hp.le_union_left (a b : Hp) : a.le (a.union b) := ⟨fun n o h => by simp [Hp.union, h]⟩
theorem Hp.le_union_right {a b : Hp} (d : a.disj b) : b.le (a.union b) := ⟨fun n o h => by
  rcases d.h n with e | e
  · simp [Hp.union, e, h]
  · rw [h] at e; cases e⟩
theorem Hp.union_le {a b c : Hp} (h : a.le c) (k : b.le c) : (a.union b).le c := ⟨fun n o e => by
  unfold Hp.union at e
  cases ha : a n with
  | some x => rw [ha] at e; simp at e; subst e; exact h.h n _ ha
  | none => rw [ha] at e; simp at e; exact k.h n o e⟩
theorem Hp.union_none {a b : Hp} {n : Nat} : (a.union b) n = none ↔ a n = none ∧ b n = none := by
  unfold Hp.union; cases a n <;> simp
theorem Hp.union_disj {a b c : Hp} (h : a.disj c) (k : b.disj c) : (a.union b).disj c := ⟨fun n => by
  rcases h.h n with e | e
  · rcases k.h n with f | f
    · exact .inl (Hp.union_none.2 ⟨e, f⟩)
    · exact .inr f
  · exact .inr e⟩
theorem Hp.disj_union {a b c : Hp} (h : a.disj b) (k : a.disj c) : a.disj (b.union c) := (Hp.union_disj h.symm k.symm).symm
theorem Hp.disj.mono {a b c d : Hp} (h : a.disj b) (k : c.le a) (l : d.le b) : c.disj d := ⟨fun n => by
  rcases h.h n with e | e
  · left; cases hc : c n with
    | none => rfl
    | some o => rw [k.h n o hc] at e; cases e
  · right; cases hd : d n with
    | none => rfl
    | some o => rw [l.h n o hd] at e; cases e⟩
theorem Hp.le.none {a b : Hp} (h : a.le b) {n : Nat} (k : b n = Option.none) : a n = Option.none := by
  cases e : a n with
  | none => rfl
  | some o => rw [h.h n o e] at k; cases k
@[simp] theorem Hp.one_same (n : Nat) (o : Obj) : Hp.one n o n = some o := by simp [Hp.one]
theorem Hp.one_some {n m : Nat} {o x : Obj} (h : Hp.one n o m = some x) : m = n ∧ x = o := by
  unfold Hp.one at h; split at h
  · rename_i e; exact ⟨e, by cases h; rfl⟩
  · cases h
theorem Hp.one_le {n : Nat} {o : Obj} {h : Hp} (k : h n = some o) : (Hp.one n o).le h := ⟨fun m x e => by
  obtain ⟨rfl, rfl⟩ := Hp.one_some e; exact k⟩
theorem Hp.le.cell {a b : Hp} (h : a.le b) {p : Addr} {v : Value} (k : a.cell p = some v) : b.cell p = some v := by
  unfold Hp.cell at k ⊢
  cases e : a p.block with
  | none => rw [e] at k; cases k
  | some o => rw [e] at k; rw [h.h _ _ e]; exact k

def _root_.Go.World.hp (w : World) : Hp := fun n => w.heap[n]?
theorem World.hp_cell (w : World) (a : Addr) : w.hp.cell a = w.cell? a := rfl

/-- An assertion: of what is never written again, and of what is owned. -/
structure HP where
  p : Hp → Hp → Prop
  mono : ∀ {r r' f : Hp}, r.le r' → p r f → p r' f

/-- Assertions apart. -/
def sep : List HP → Hp → Hp → Prop
  | [], _, _ => True
  | A :: s, r, f => ∃ f1 f2 : Hp, f1.disj f2 ∧ f1.le f ∧ f2.le f ∧ A.p r f1 ∧ sep s r f2

theorem sep_mono : ∀ {s : List HP} {r r' f f' : Hp}, r.le r' → f.le f' → sep s r f → sep s r' f'
  | [], _, _, _, _, _, _, _ => trivial
  | A :: s, r, r', f, f', hr, hf, ⟨f1, f2, d, l1, l2, a, k⟩ => ⟨f1, f2, d, l1.trans hf, l2.trans hf, A.mono hr a, sep_mono hr (Hp.le_refl _) k⟩

theorem sep_swap {A B : HP} {s : List HP} {r f : Hp} (h : sep (A :: B :: s) r f) : sep (B :: A :: s) r f := by
  obtain ⟨f1, f2, d, l1, l2, a, g1, g2, d', m1, m2, b, k⟩ := h
  refine ⟨g1, f1.union g2, ?_, m1.trans l2, Hp.union_le l1 (m2.trans l2), b, f1, g2, ?_, Hp.le_union_left _ _, Hp.le_union_right ?_, a, k⟩
  · exact Hp.disj_union (d.mono (Hp.le_refl _) m1).symm d'
  · exact d.mono (Hp.le_refl _) m2
  · exact d.mono (Hp.le_refl _) m2

/-- One assertion taken out. -/
inductive Sel : List HP → HP → List HP → Prop
  | here {A : HP} {s : List HP} : Sel (A :: s) A s
  | there {A B : HP} {s t : List HP} (h : Sel s A t) : Sel (B :: s) A (B :: t)

theorem Sel.out : ∀ {s t : List HP} {A : HP}, Sel s A t → ∀ {r f : Hp}, sep s r f → sep (A :: t) r f
  | _, _, _, .here, _, _, h => h
  | _, _, _, .there k, _, _, ⟨f1, f2, d, l1, l2, b, h⟩ => sep_swap ⟨f1, f2, d, l1, l2, b, k.out h⟩
theorem Sel.back : ∀ {s t : List HP} {A : HP}, Sel s A t → ∀ {r f : Hp}, sep (A :: t) r f → sep s r f
  | _, _, _, .here, _, _, h => h
  | _, _, _, .there k, _, _, h => by
    obtain ⟨f1, f2, d, l1, l2, b, h⟩ := sep_swap h
    exact ⟨f1, f2, d, l1, l2, b, k.back h⟩

/-- An assertion of what is never written: it may be kept and handed on. -/
def ro (Q : Hp → Prop) (m : ∀ {r r' : Hp}, r.le r' → Q r → Q r') : HP := ⟨fun r _ => Q r, fun h => m h⟩
def HP.dup (A : HP) : Prop := ∀ {r f f' : Hp}, A.p r f → A.p r f'
class HP.Dup (A : HP) : Prop where
  h : A.dup
theorem ro_dup {Q : Hp → Prop} {m : ∀ {r r' : Hp}, r.le r' → Q r → Q r'} : (ro Q m).dup := fun h => h

instance {Q : Hp → Prop} {m : ∀ {r r' : Hp}, r.le r' → Q r → Q r'} : (ro Q m).Dup := ⟨ro_dup⟩

theorem sep_dup {A : HP} (d : A.dup) {s : List HP} {r f f' : Hp} (h : A.p r f') (k : sep s r f) : sep (A :: s) r f :=
  ⟨Hp.emp, f, Hp.emp_disj _, Hp.emp_le _, Hp.le_refl _, d h, k⟩

/-- Several taken out, one behind the other; what is never written stays, too. -/
inductive Sels : List HP → List HP → List HP → Prop
  | nil {s : List HP} : Sels s [] s
  | dup {A : HP} {s t l u : List HP} (d : A.dup) (h : Sel s A t) (k : Sels s l u) : Sels s (A :: l) u
  | cons {A : HP} {s t l u : List HP} (h : Sel s A t) (k : Sels t l u) : Sels s (A :: l) u

theorem Sels.dupI {A : HP} {s t l u : List HP} [d : A.Dup] (h : Sel s A t) (k : Sels s l u) : Sels s (A :: l) u := .dup d.h h k
theorem Sels.out : ∀ {s l u : List HP}, Sels s l u → ∀ {r f : Hp}, sep s r f → sep (l ++ u) r f
  | _, _, _, .nil, _, _, h => h
  | _, _, _, .dup d h k, _, _, x => by
    obtain ⟨f1, f2, _, l1, l2, a, y⟩ := h.out x
    exact sep_dup d a (k.out x)
  | _, _, _, .cons h k, _, _, x => by
    obtain ⟨f1, f2, d, l1, l2, a, y⟩ := h.out x
    exact ⟨f1, f2, d, l1, l2, a, k.out y⟩

theorem sep_append {s t : List HP} {r f : Hp} : sep (s ++ t) r f ↔ ∃ f1 f2 : Hp, f1.disj f2 ∧ f1.le f ∧ f2.le f ∧ sep s r f1 ∧ sep t r f2 := by
  induction s generalizing f with
  | nil => exact ⟨fun h => ⟨Hp.emp, f, Hp.emp_disj _, Hp.emp_le _, Hp.le_refl _, trivial, h⟩, fun ⟨_, _, _, _, l, _, h⟩ => sep_mono (Hp.le_refl _) l h⟩
  | cons A s ih =>
    constructor
    · rintro ⟨f1, f2, d, l1, l2, a, h⟩
      obtain ⟨g1, g2, d', m1, m2, h1, h2⟩ := ih.1 h
      refine ⟨f1.union g1, g2, ?_, Hp.union_le l1 (m1.trans l2), m2.trans l2, ⟨f1, g1, d.mono (Hp.le_refl _) m1, Hp.le_union_left _ _, Hp.le_union_right (d.mono (Hp.le_refl _) m1), a, h1⟩, h2⟩
      exact Hp.union_disj (d.mono (Hp.le_refl _) m2) d'
    · rintro ⟨f1, f2, d, l1, l2, ⟨g1, g2, d', m1, m2, a, h⟩, k⟩
      refine ⟨g1, g2.union f2, Hp.disj_union d' (d.mono m1 (Hp.le_refl _)), m1.trans l1, Hp.union_le (m2.trans l1) l2, a, ?_⟩
      refine ih.2 ⟨g2, f2, d.mono m2 (Hp.le_refl _), Hp.le_union_left _ _, Hp.le_union_right (d.mono m2 (Hp.le_refl _)), h, k⟩

/-- What does not change from outside: the outside world, what was written, the tape. -/
structure Env where
  os : Os
  out : Array (Nat × ByteArray)
  tape : Tape

structure Sat (E : Env) (w : World) (r f : Hp) : Prop where
  os : w.os = E.os
  out : w.output = E.out
  tape : w.tape = E.tape
  ro : r.le w.hp
  own : f.le w.hp
  apart : r.disj f

def EvOk (n : Nat) (r f : Hp) (e : Event) : Prop :=
  e.sync = false ∧ match e.loc with
  | .cell a => (r a.block ≠ none ∧ e.write = false) ∨ f a.block ≠ none ∨ n ≤ a.block
  | .obj b => (r b ≠ none ∧ e.write = false) ∨ f b ≠ none ∨ n ≤ b
  | _ => False

/-- An entry of the trace that says nothing of memory: a mark of a row's entry, or of room. -/
def EvIdle (e : Event) : Prop := ∃ m, e.loc = .mark m ∧ ((∃ f, m = .extern f) ∨ m = .noRoom)

/-- One step of its own: from w, r, f to w', r', f'. -/
structure Kept (E : Env) (w : World) (r f : Hp) (w' : World) (es : Array Event) (r' f' : Hp) : Prop where
  sat : Sat E w' r' f'
  ro : r.le r'
  size : w.heap.size ≤ w'.heap.size
  keep : ∀ n, n < w.heap.size → f n = none → w'.heap[n]? = w.heap[n]?
  fresh : ∀ n, f' n ≠ none → f n = none → w.heap.size ≤ n
  roFresh : ∀ n, r' n ≠ none → r n = none → f n ≠ none ∨ w.heap.size ≤ n
  evs : ∀ e ∈ es, EvOk w.heap.size r f e ∨ EvIdle e

theorem Kept.refl {E : Env} {w : World} {r f : Hp} (h : Sat E w r f) : Kept E w r f w #[] r f :=
  ⟨h, Hp.le_refl _, Nat.le_refl _, fun _ _ _ => rfl, fun _ h k => absurd k h, fun _ h k => absurd k h, fun e he => by simp at he⟩

theorem EvOk.mono {n : Nat} {r f : Hp} {e : Event} {n' : Nat} {r' f' : Hp} (h : EvOk n' r' f' e) (hn : n ≤ n') (hr : ∀ m, r' m ≠ none → r m ≠ none ∨ f m ≠ none ∨ n ≤ m) (hf : ∀ m, f' m ≠ none → f m ≠ none ∨ n ≤ m) : EvOk n r f e := by
  obtain ⟨hs, h⟩ := h
  refine ⟨hs, ?_⟩
  cases hl : e.loc with
  | cell a =>
    rw [hl] at h
    rcases h with ⟨h, hw⟩ | h | h
    · rcases hr _ h with k | k | k
      · exact .inl ⟨k, hw⟩
      · exact .inr (.inl k)
      · exact .inr (.inr k)
    · exact .inr (hf _ h)
    · exact .inr (.inr (Nat.le_trans hn h))
  | obj a =>
    rw [hl] at h
    rcases h with ⟨h, hw⟩ | h | h
    · rcases hr _ h with k | k | k
      · exact .inl ⟨k, hw⟩
      · exact .inr (.inl k)
      · exact .inr (.inr k)
    · exact .inr (hf _ h)
    · exact .inr (.inr (Nat.le_trans hn h))
  | output => rw [hl] at h; exact h
  | goroutines => rw [hl] at h; exact h
  | mark m => rw [hl] at h; exact h

theorem Kept.trans {E : Env} {w w1 w2 : World} {r f r1 f1 r2 f2 : Hp} {es es' : Array Event} (h : Kept E w r f w1 es r1 f1) (k : Kept E w1 r1 f1 w2 es' r2 f2) : Kept E w r f w2 (es ++ es') r2 f2 := by
  have key : ∀ n, f1 n ≠ none → f n ≠ none ∨ w.heap.size ≤ n := fun n hn => by
    by_cases e : f n = none
    · exact .inr (h.fresh n hn e)
    · exact .inl e
  refine ⟨k.sat, h.ro.trans k.ro, Nat.le_trans h.size k.size, fun n hn hf => ?_, fun n hn hf => ?_, fun n hn hr => ?_, fun e he => ?_⟩
  · rw [k.keep n (Nat.lt_of_lt_of_le hn h.size), h.keep n hn hf]
    cases e : f1 n with
    | none => rfl
    | some o => exact absurd (h.fresh n (by rw [e]; simp) hf) (Nat.not_le.2 hn)
  · by_cases e : f1 n = none
    · exact Nat.le_trans h.size (k.fresh n hn e)
    · exact h.fresh n e hf
  · by_cases e : r1 n = none
    · rcases k.roFresh n hn e with x | x
      · exact key n x
      · exact .inr (Nat.le_trans h.size x)
    · exact h.roFresh n e hr
  · rcases Array.mem_append.1 he with x | x
    · exact h.evs e x
    · rcases k.evs e x with y | y
      · refine .inl (y.mono h.size (fun m hm => ?_) key)
        by_cases e' : r m = none
        · exact .inr (h.roFresh m hm e')
        · exact .inl e'
      · exact .inr y

/-- Behind dropping what is not asked any more. -/
theorem Kept.drop {E : Env} {w : World} {r f : Hp} {w' : World} {es : Array Event} {r' f' g : Hp} (h : Kept E w r f w' es r' f') (l : g.le f') : Kept E w r f w' es r' g :=
  ⟨⟨h.sat.os, h.sat.out, h.sat.tape, h.sat.ro, l.trans h.sat.own, h.sat.apart.mono (Hp.le_refl _) l⟩, h.ro, h.size, h.keep, fun n hn hf => h.fresh n (fun e => hn (l.none e)) hf, h.roFresh, h.evs⟩

/-- Safe runs of one goroutine (goroutine 0, in whatever company keeps what it relies on), up to K; X: steps of another kind. -/
inductive Safe (P : Program) (E : Env) (X : Goroutine → Hp → Hp → (Goroutine → Hp → Hp → Prop) → Prop) (K : Goroutine → Hp → Hp → Prop) : Goroutine → Hp → Hp → Prop
  | stop {g : Goroutine} {r f : Hp} (h : K g r f) : Safe P E X K g r f
  | step {g : Goroutine} {r f : Hp} (N : World → Goroutine × World × Array Event × Hp × Hp) (hs : g.status = .running)
      (h : ∀ w, Sat E w r f → stepG P true g w = .go (N w).1 (N w).2.1 (N w).2.2.1 ∧ Kept E w r f (N w).2.1 (N w).2.2.1 (N w).2.2.2.1 (N w).2.2.2.2)
      (ih : ∀ w, Sat E w r f → Safe P E X K (N w).1 (N w).2.2.2.1 (N w).2.2.2.2) : Safe P E X K g r f
  | ghost {g : Goroutine} {r f r' f' : Hp} (hr : r.le r') (hf : f'.le f) (hd : r'.disj f') (hn : ∀ n, r' n ≠ none → r n = none → f n = r' n) (k : Safe P E X K g r' f') : Safe P E X K g r f
  | big {g : Goroutine} {r f : Hp} {S : Goroutine → Hp → Hp → Prop} (h : X g r f S) (ih : ∀ g' r' f', S g' r' f' → Safe P E X K g' r' f') : Safe P E X K g r f

theorem Safe.next {P : Program} {E : Env} {X : Goroutine → Hp → Hp → (Goroutine → Hp → Hp → Prop) → Prop} {K : Goroutine → Hp → Hp → Prop} {g : Goroutine} {r f : Hp} (hs : g.status = .running)
    (h : ∀ w, Sat E w r f → ∃ g' w' es r' f', stepG P true g w = .go g' w' es ∧ Kept E w r f w' es r' f' ∧ Safe P E X K g' r' f') : Safe P E X K g r f := by
  classical
  refine .step (fun w => if x : Sat E w r f then ((h w x).choose, (h w x).choose_spec.choose, (h w x).choose_spec.choose_spec.choose, (h w x).choose_spec.choose_spec.choose_spec.choose, (h w x).choose_spec.choose_spec.choose_spec.choose_spec.choose) else (g, w, #[], r, f)) hs (fun w x => ?_) (fun w x => ?_)
  · simp only [dif_pos x]
    have := (h w x).choose_spec.choose_spec.choose_spec.choose_spec.choose_spec
    exact ⟨this.1, this.2.1⟩
  · simp only [dif_pos x]
    exact (h w x).choose_spec.choose_spec.choose_spec.choose_spec.choose_spec.2.2

/-- A step that leaves the world as it is. -/
theorem Safe.idle {P : Program} {E : Env} {X : Goroutine → Hp → Hp → (Goroutine → Hp → Hp → Prop) → Prop} {K : Goroutine → Hp → Hp → Prop} {g g' : Goroutine} {r f : Hp} (hs : g.status = .running)
    (h : ∀ w, stepG P true g w = .go g' w) (k : Safe P E X K g' r f) : Safe P E X K g r f :=
  .next hs fun w x => ⟨g', w, #[], r, f, h w, .refl x, k⟩

theorem Safe.weaken {P : Program} {E : Env} {X : Goroutine → Hp → Hp → (Goroutine → Hp → Hp → Prop) → Prop} {K K' : Goroutine → Hp → Hp → Prop} {g : Goroutine} {r f : Hp} (h : Safe P E X K g r f) (hk : ∀ g r f, K g r f → Safe P E X K' g r f) : Safe P E X K' g r f := by
  induction h with
  | stop h => exact hk _ _ _ h
  | step N hs h _ ih => exact .step N hs h ih
  | ghost hr hf hd hn _ ih => exact .ghost hr hf hd hn ih
  | big h _ ih => exact .big h ih
theorem Sat.ghost {E : Env} {w : World} {r f r' f' : Hp} (h : Sat E w r f) (hr : r.le r') (hf : f'.le f) (hd : r'.disj f') (hn : ∀ n, r' n ≠ none → r n = none → f n = r' n) : Sat E w r' f' := by
  refine ⟨h.os, h.out, h.tape, ⟨fun n o e => ?_⟩, hf.trans h.own, hd⟩
  cases hc : r n with
  | some x => have := hr.h _ _ hc; rw [e] at this; cases this; exact h.ro.h _ _ hc
  | none => exact h.own.h _ _ (by rw [hn n (by rw [e]; simp) hc]; exact e)
end Go.KL
