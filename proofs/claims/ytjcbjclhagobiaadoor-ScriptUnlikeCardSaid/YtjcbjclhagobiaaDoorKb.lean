/- Own program logic, part 2: what an operation of the model does, as triples over assertions. -/
import Derived.Test.YtjcbjclhagobiaaDoorKa
import Derived.Conc.Events
namespace Go.KL
open Go

/-- The triple: from any world in which A (and whatever else, F) holds, s runs to its end, with Q; F stands. -/
def T {α : Type} (P : Program) (E : Env) (s : Sem α) (A : List HP) (Q : α → List HP → Prop) : Prop :=
  ∀ (w : World) (r f : Hp) (F : List HP) (es : Array Event), Sat E w r f → sep (A ++ F) r f →
    ∃ a w' es' r' f' A', s.runT P w es = (.ok a w', es ++ es') ∧ Kept E w r f w' es' r' f' ∧ Q a A' ∧ sep (A' ++ F) r' f'

/-- It only computes. -/
def Calm {α : Type} (P : Program) (s : Sem α) (a : α) : Prop := ∀ w es, s.runT P w es = (.ok a w, es)

section
variable {α β : Type} {P : Program} {E : Env}
theorem Calm.bind {s : Sem α} {a : α} {k : α → Sem β} {b : β} (h : Calm P s a) (g : Calm P (k a) b) : Calm P (s >>= k) b := by
  intro w es
  show (Sem.bind s k).runT P w es = _
  rw [Sem.runT_bind', h w es]
  exact g w es
theorem Calm.pure (a : α) : Calm P (Pure.pure a : Sem α) a := fun _ _ => rfl
theorem Calm.program : Calm P Go.program P := fun _ _ => rfl
theorem T.calm {s : Sem α} {a : α} {A : List HP} {Q : α → List HP → Prop} (h : Calm P s a) (q : Q a A) : T P E s A Q :=
  fun w r f F es hs hA => ⟨a, w, #[], r, f, A, by rw [h w es]; simp, .refl hs, q, hA⟩
theorem T.bind {s : Sem α} {k : α → Sem β} {A : List HP} {Q : α → List HP → Prop} {R : β → List HP → Prop} (h : T P E s A Q) (g : ∀ a A', Q a A' → T P E (k a) A' R) : T P E (s >>= k) A R := by
  intro w r f F es hs hA
  obtain ⟨a, w1, es1, r1, f1, A1, e1, k1, q1, s1⟩ := h w r f F es hs hA
  obtain ⟨b, w2, es2, r2, f2, A2, e2, k2, q2, s2⟩ := g a A1 q1 w1 r1 f1 F (es ++ es1) k1.sat s1
  refine ⟨b, w2, es1 ++ es2, r2, f2, A2, ?_, k1.trans k2, q2, s2⟩
  show (Sem.bind s k).runT P w es = _
  rw [Sem.runT_bind', e1]
  show (k a).runT P w1 (es ++ es1) = _
  rw [e2, Array.append_assoc]
theorem T.cons {s : Sem α} {A : List HP} {Q R : α → List HP → Prop} (h : T P E s A Q) (g : ∀ a A', Q a A' → R a A') : T P E s A R := by
  intro w r f F es hs hA
  obtain ⟨a, w1, es1, r1, f1, A1, e1, k1, q1, s1⟩ := h w r f F es hs hA
  exact ⟨a, w1, es1, r1, f1, A1, e1, k1, g _ _ q1, s1⟩
theorem T.calmBind {s : Sem α} {a : α} {k : α → Sem β} {A : List HP} {R : β → List HP → Prop} (h : Calm P s a) (g : T P E (k a) A R) : T P E (s >>= k) A R :=
  T.bind (Q := fun x B => x = a ∧ B = A) (T.calm h ⟨rfl, rfl⟩) fun _ _ ⟨e, e'⟩ => by rw [e, e']; exact g
/-- Over more than is asked. -/
theorem T.sels {s : Sem α} {A B F : List HP} {Q : α → List HP → Prop} {R : α → List HP → Prop} (h : Sels B A F) (g : T P E s A Q) (hr : ∀ a A', Q a A' → R a (A' ++ F)) : T P E s B R := by
  intro w r f F' es hs hB
  obtain ⟨f1, f2, d, l1, l2, h1, h2⟩ := sep_append.1 hB
  have hA : sep (A ++ (F ++ F')) r f := by
    rw [← List.append_assoc]
    exact sep_append.2 ⟨f1, f2, d, l1, l2, h.out h1, h2⟩
  obtain ⟨a, w1, es1, r1, f1', A1, e1, k1, q1, s1⟩ := g w r f (F ++ F') es hs hA
  exact ⟨a, w1, es1, r1, f1', A1 ++ F, e1, k1, hr _ _ q1, by rw [List.append_assoc]; exact s1⟩
end

/-- A block that is owned. -/
def blk (b : Nat) (o : Obj) : HP := ⟨fun _ f => f b = some o, fun _ h => h⟩
/-- A block of cells that is owned. -/
def box (b : Nat) (c : List Value) (t : TypeId) : HP := blk b (.cells c.toArray t (0, 0))
/-- Cells that are never written again. -/
def rocells (a : Addr) (c : List Value) : HP := ro (fun r => ∀ i v, c[i]? = some v → r.cell (a.add i) = some v) fun h g i v e => h.cell (g i v e)

theorem sep_one {A : HP} {F : List HP} {r f : Hp} (h : sep ([A] ++ F) r f) : ∃ f1 f2, Hp.disj f1 f2 ∧ f1.le f ∧ f2.le f ∧ A.p r f1 ∧ sep F r f2 := h

section
variable {P : Program} {E : Env}
/-- A new block. -/
theorem T.new (o : Obj) : T P E (newObj o) [] (fun b A => A = [blk b o]) := by
  intro w r f F es hs hA
  refine ⟨w.heap.size, { w with heap := w.heap.push o }, #[], r, f.union (Hp.one w.heap.size o), [blk w.heap.size o], rfl, ?_, rfl, ?_⟩
  · have hlt : ∀ (h : Hp), h.le w.hp → h w.heap.size = none := fun h l => by
      cases e : h w.heap.size with
      | none => rfl
      | some x => have := l.h _ _ e; simp [World.hp] at this
    have d : f.disj (Hp.one w.heap.size o) := ⟨fun n => by
      by_cases e : n = w.heap.size
      · exact .inl (e ▸ hlt f hs.own)
      · right; simp [Hp.one, e]⟩
    have up : ∀ (h : Hp), h.le w.hp → h.le ({ w with heap := w.heap.push o } : World).hp := fun h l => ⟨fun n x e => by
      have := l.h _ _ e
      simp only [World.hp] at this ⊢
      rw [Array.getElem?_push]
      have hn : n ≠ w.heap.size := by
        intro h'; subst h'; simp at this
      simp [hn, this]⟩
    refine ⟨⟨hs.os, hs.out, hs.tape, up _ hs.ro, Hp.union_le (up _ hs.own) ⟨fun n x e => ?_⟩, Hp.disj_union hs.apart ⟨fun n => ?_⟩⟩, Hp.le_refl _, ?_, ?_, ?_, ?_, ?_⟩
    · obtain ⟨rfl, rfl⟩ := Hp.one_some e
      simp [World.hp]
    · by_cases e : n = w.heap.size
      · exact .inl (e ▸ hlt r hs.ro)
      · right; simp [Hp.one, e]
    · simp
    · intro n hn hf
      show (w.heap.push o)[n]? = _
      rw [Array.getElem?_push]
      simp [Nat.ne_of_lt hn]
    · intro n hn hf
      cases e : Hp.one w.heap.size o n with
      | none => exact absurd (Hp.union_none.2 ⟨hf, e⟩) hn
      | some x => obtain ⟨rfl, _⟩ := Hp.one_some e; exact Nat.le_refl _
    · intro n hn hr; exact absurd hr hn
    · intro e he; simp at he
  · refine ⟨Hp.one w.heap.size o, f, ?_, Hp.le_union_right ?_, Hp.le_union_left _ _, by simp [blk], hA⟩
    · refine ⟨fun n => ?_⟩
      by_cases e : n = w.heap.size
      · right
        cases e' : f n with
        | none => rfl
        | some x => have := hs.own.h _ _ e'; simp [World.hp, e] at this
      · left; simp [Hp.one, e]
    · refine ⟨fun n => ?_⟩
      by_cases e : n = w.heap.size
      · left
        cases e' : f n with
        | none => rfl
        | some x => have := hs.own.h _ _ e'; simp [World.hp, e] at this
      · right; simp [Hp.one, e]
end
end Go.KL
