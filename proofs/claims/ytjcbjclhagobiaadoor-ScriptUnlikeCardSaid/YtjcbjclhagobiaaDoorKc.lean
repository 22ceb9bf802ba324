/- Own program logic, part 3: loads, stores, draws, objects. -/
import Derived.Test.YtjcbjclhagobiaaDoorKb
namespace Go.KL
open Go

/-- The value of one cell. -/
def oneC : Value → Bool
  | .agg _ | .tuple _ => false
  | _ => true
/-- The assertion tells what stands in a cell. -/
def Has (A : HP) (a : Addr) (v : Value) : Prop := ∀ r f, A.p r f → f.cell a = some v ∨ r.cell a = some v
theorem blk_has {b off : Nat} {c : Array Value} {t : TypeId} {z : Nat × Nat} {v : Value} (h : c[off]? = some v) : Has (blk b (.cells c t z)) ⟨b, off, none⟩ v :=
  fun r f k => .inl (by have k : f b = _ := k; simp [Hp.cell, k, h])
theorem box_has {b off : Nat} {c : List Value} {t : TypeId} {v : Value} (h : c[off]? = some v) : Has (box b c t) ⟨b, off, none⟩ v := blk_has (by simpa using h)
theorem ro_has {a : Addr} {c : List Value} {i : Nat} {v : Value} (h : c[i]? = some v) : Has (rocells a c) (a.add i) v := fun r f k => .inr (k i v h)

theorem sat_cell {E : Env} {w : World} {r f : Hp} (h : Sat E w r f) {a : Addr} {v : Value} (k : f.cell a = some v ∨ r.cell a = some v) : w.cell? a = some v := by
  rcases k with k | k
  · exact h.own.cell k
  · exact h.ro.cell k
theorem cell_some {h : Hp} {a : Addr} {v : Value} (k : h.cell a = some v) : h a.block ≠ none := by
  intro e; unfold Hp.cell at k; rw [e] at k; cases k

section
variable {P : Program} {E : Env}
theorem T.load {A : HP} {a : Addr} {v : Value} (h : Has A a v) : T P E (Go.load a) [A] (fun x B => x = v ∧ B = [A]) := by
  intro w r f F es hs hA
  obtain ⟨f1, f2, d, l1, l2, a1, _⟩ := sep_one hA
  have hc : f.cell a = some v ∨ r.cell a = some v := (h r f1 a1).imp (fun x => l1.cell x) id
  refine ⟨v, w, #[⟨.cell a, false, false⟩], r, f, [A], ?_, ?_, ⟨rfl, rfl⟩, hA⟩
  · show Sem.runT P (.load .plain a .pure) w es = _
    rw [Sem.runT, sat_cell hs hc]
    rfl
  · refine ⟨hs, Hp.le_refl _, Nat.le_refl _, fun _ _ _ => rfl, fun _ x y => absurd y x, fun _ x y => absurd y x, fun e he => .inl ?_⟩
    simp at he; subst he
    refine ⟨rfl, ?_⟩
    rcases hc with x | x
    · exact .inr (.inl (cell_some x))
    · exact .inl ⟨cell_some x, rfl⟩

theorem hp_setCell {w : World} {b off : Nat} {c : Array Value} {t : TypeId} {z : Nat × Nat} (h : w.heap[b]? = some (.cells c t z)) (v : Value) :
    (w.setCell ⟨b, off, none⟩ v).hp = fun n => if n = b then some (.cells (c.setIfInBounds off v) t z) else w.hp n := by
  funext n
  unfold World.hp World.setCell
  simp only [Array.getElem?_modify]
  by_cases e : b = n
  · subst e; simp [h]
  · simp [e, Ne.symm e]

theorem T.store {b off : Nat} {c : List Value} {t : TypeId} {v : Value} (hv : oneC v = true) (hn : off < c.length) :
    T P E (Go.store ⟨b, off, none⟩ v) [box b c t] (fun _ B => B = [box b (c.set off v) t]) := by
  intro w r f F es hs hA
  obtain ⟨f1, f2, d, l1, l2, a1, hF⟩ := sep_one hA
  have a1 : f1 b = some (.cells c.toArray t (0, 0)) := a1
  have hb : w.heap[b]? = some (.cells c.toArray t (0, 0)) := hs.own.h _ _ (l1.h _ _ a1)
  have hc : w.cell? ⟨b, off, none⟩ = some c[off] := by simp [World.cell?, hb, hn]
  have hz : w.frozen? ⟨b, off, none⟩ = false := by simp [World.frozen?, hb]
  have hhp := hp_setCell (off := off) hb v
  have hrb : r b = none := by
    rcases hs.apart.h b with x | x
    · exact x
    · rw [l1.h _ _ a1] at x; cases x
  have hf2 : f2 b = none := by
    rcases d.h b with x | x
    · rw [a1] at x; cases x
    · exact x
  refine ⟨(), w.setCell ⟨b, off, none⟩ v, #[⟨.cell ⟨b, off, none⟩, true, false⟩], r, (Hp.one b (.cells (c.set off v).toArray t (0, 0))).union f2, [box b (c.set off v) t], ?_, ?_, rfl, ?_⟩
  · show Sem.runT P (.store .plain ⟨b, off, none⟩ v (.pure ())) w es = _
    have : Sem.runT P (.store .plain ⟨b, off, none⟩ v (.pure ())) w es = (.ok () (w.setCell ⟨b, off, none⟩ v), es.push ⟨.cell ⟨b, off, none⟩, true, false⟩) := by
      cases v <;> first | (simp [oneC] at hv; done) | (rw [Sem.runT, hc] <;> simp [hz, Sem.runT, -Sem.runT_eq] <;> rfl)
    rw [this]; simp
  · refine ⟨⟨hs.os, hs.out, hs.tape, ⟨fun n o e => ?_⟩, ⟨fun n o e => ?_⟩, ?_⟩, Hp.le_refl _, ?_, ?_, ?_, fun _ x y => absurd y x, fun e he => .inl ?_⟩
    · rw [hhp]
      have : n ≠ b := by intro x; subst x; rw [hrb] at e; cases e
      simp only [this, if_false]
      exact hs.ro.h _ _ e
    · rw [hhp]
      by_cases x : n = b
      · subst x; simp [Hp.union] at e; subst e; simp
      · simp only [x, if_false]
        have : f2 n = some o := by simpa [Hp.union, Hp.one, x] using e
        exact hs.own.h _ _ (l2.h _ _ this)
    · refine hs.apart.mono (Hp.le_refl _) ?_ |> fun (k : r.disj (f1.union f2)) => ⟨fun n => ?_⟩
      · exact Hp.union_le l1 l2
      · by_cases x : n = b
        · subst x; exact .inl hrb
        · rcases k.h n with y | y
          · exact .inl y
          · right; rw [Hp.union_none] at y; simp [Hp.union, Hp.one, x, y.2]
    · simp [World.setCell]
    · intro n hn' hf
      have : n ≠ b := by intro x; subst x; rw [l1.h _ _ a1] at hf; cases hf
      have := congrFun hhp n
      simp only [World.hp] at this
      rw [this]; simp [*]
    · intro n hn' hf
      exfalso
      apply hn'
      rw [Hp.union_none]
      have x : n ≠ b := by intro x; subst x; rw [l1.h _ _ a1] at hf; cases hf
      exact ⟨by simp [Hp.one, x], l2.none hf⟩
    · simp at he; subst he
      exact ⟨rfl, .inr (.inl (by rw [l1.h _ _ a1]; simp))⟩
  · refine ⟨Hp.one b (.cells (c.set off v).toArray t (0, 0)), f2, ⟨fun n => ?_⟩, Hp.le_union_left _ _, Hp.le_union_right ⟨fun n => ?_⟩, by simp [box, blk], hF⟩
    · by_cases x : n = b
      · subst x; exact .inr hf2
      · left; simp [Hp.one, x]
    · by_cases x : n = b
      · subst x; exact .inr hf2
      · left; simp [Hp.one, x]

theorem T.choose (q : Question) : T P E (Go.choose q) [] (fun _ B => B = []) := by
  intro w r f F es hs hA
  have hd : ∀ d, Kept E w r f { w with drawn := d } #[] r f := fun d =>
    ⟨⟨hs.os, hs.out, hs.tape, hs.ro, hs.own, hs.apart⟩, Hp.le_refl _, Nat.le_refl _, fun _ _ _ => rfl, fun _ x y => absurd y x, fun _ x y => absurd y x, fun e he => by simp at he⟩
  by_cases e : q.forced
  · refine ⟨0, w, #[], r, f, [], ?_, .refl hs, rfl, hA⟩
    show Sem.runT P (.choose q .pure) w es = _
    rw [Sem.runT, if_pos e]; simp [Sem.runT, -Sem.runT_eq]
  · refine ⟨q.cut (w.tape w.drawn q), { w with drawn := w.drawn + 1 }, #[], r, f, [], ?_, hd _, rfl, hA⟩
    show Sem.runT P (.choose q .pure) w es = _
    rw [Sem.runT, if_neg e]; simp [Sem.runT, -Sem.runT_eq]

def Obj.rowed : Obj → Bool
  | .cells .. => true
  | _ => false

theorem T.getObj {b : Nat} {o : Obj} (hc : Obj.rowed o = false) (hch : o.isChan = false) : T P E (Go.getObj b) [blk b o] (fun x B => x = o ∧ B = [blk b o]) := by
  intro w r f F es hs hA
  obtain ⟨f1, f2, d, l1, l2, a1, hF⟩ := sep_one hA
  have a1 : f1 b = some o := a1
  have hb : w.heap[b]? = some o := hs.own.h _ _ (l1.h _ _ a1)
  refine ⟨o, w, #[⟨.obj b, false, false⟩], r, f, [blk b o], ?_, ?_, ⟨rfl, rfl⟩, hA⟩
  · show Sem.runT P (.getObj b .pure) w es = _
    rw [Sem.runT, hb]
    cases o <;> simp [Obj.rowed, Obj.isChan] at hc hch <;> simp [Sem.runT, Obj.isChan, -Sem.runT_eq]
  · refine ⟨hs, Hp.le_refl _, Nat.le_refl _, fun _ _ _ => rfl, fun _ x y => absurd y x, fun _ x y => absurd y x, fun e he => .inl ?_⟩
    simp at he; subst he
    exact ⟨rfl, .inr (.inl (by rw [l1.h _ _ a1]; simp))⟩

theorem T.setObj {b : Nat} {o o' : Obj} (hc : Obj.rowed o = false) (hch : o'.isChan = false) : T P E (Go.setObj b o') [blk b o] (fun _ B => B = [blk b o']) := by
  intro w r f F es hs hA
  obtain ⟨f1, f2, d, l1, l2, a1, hF⟩ := sep_one hA
  have a1 : f1 b = some o := a1
  have hb : w.heap[b]? = some o := hs.own.h _ _ (l1.h _ _ a1)
  have hlt : b < w.heap.size := by
    rw [Array.getElem?_eq_some_iff] at hb; exact hb.1
  have hhp : ({ w with heap := w.heap.setIfInBounds b o' } : World).hp = fun n => if n = b then some o' else w.hp n := by
    funext n
    simp only [World.hp, Array.getElem?_setIfInBounds]
    by_cases e : b = n
    · subst e; simp [hlt]
    · simp [e, Ne.symm e]
  have hrb : r b = none := by
    rcases hs.apart.h b with x | x
    · exact x
    · rw [l1.h _ _ a1] at x; cases x
  have hf2 : f2 b = none := by
    rcases d.h b with x | x
    · rw [a1] at x; cases x
    · exact x
  refine ⟨(), { w with heap := w.heap.setIfInBounds b o' }, #[⟨.obj b, true, false⟩], r, (Hp.one b o').union f2, [blk b o'], ?_, ?_, rfl, ?_⟩
  · show Sem.runT P (.setObj b o' (.pure ())) w es = _
    rw [Sem.runT, hb]
    cases o <;> simp [Obj.rowed] at hc <;> simp [Sem.runT, hch, -Sem.runT_eq]
  · refine ⟨⟨hs.os, hs.out, hs.tape, ⟨fun n o e => ?_⟩, ⟨fun n o e => ?_⟩, ?_⟩, Hp.le_refl _, ?_, ?_, ?_, fun _ x y => absurd y x, fun e he => .inl ?_⟩
    · rw [hhp]
      have : n ≠ b := by intro x; subst x; rw [hrb] at e; cases e
      simp only [this, if_false]
      exact hs.ro.h _ _ e
    · rw [hhp]
      by_cases x : n = b
      · subst x; simp [Hp.union] at e; subst e; simp
      · simp only [x, if_false]
        have : f2 n = some o := by simpa [Hp.union, Hp.one, x] using e
        exact hs.own.h _ _ (l2.h _ _ this)
    · refine hs.apart.mono (Hp.le_refl _) ?_ |> fun (k : r.disj (f1.union f2)) => ⟨fun n => ?_⟩
      · exact Hp.union_le l1 l2
      · by_cases x : n = b
        · subst x; exact .inl hrb
        · rcases k.h n with y | y
          · exact .inl y
          · right; rw [Hp.union_none] at y; simp [Hp.union, Hp.one, x, y.2]
    · simp
    · intro n hn' hf
      have : n ≠ b := by intro x; subst x; rw [l1.h _ _ a1] at hf; cases hf
      have := congrFun hhp n
      simp only [World.hp] at this
      rw [this]; simp [*]
    · intro n hn' hf
      exfalso
      apply hn'
      rw [Hp.union_none]
      have x : n ≠ b := by intro x; subst x; rw [l1.h _ _ a1] at hf; cases hf
      exact ⟨by simp [Hp.one, x], l2.none hf⟩
    · simp at he; subst he
      exact ⟨rfl, .inr (.inl (by rw [l1.h _ _ a1]; simp))⟩
  · refine ⟨Hp.one b o', f2, ⟨fun n => ?_⟩, Hp.le_union_left _ _, Hp.le_union_right ⟨fun n => ?_⟩, by simp [blk], hF⟩
    · by_cases x : n = b
      · subst x; exact .inr hf2
      · left; simp [Hp.one, x]
    · by_cases x : n = b
      · subst x; exact .inr hf2
      · left; simp [Hp.one, x]

theorem T.mark {m : Mark} (h : (∃ f, m = .extern f) ∨ m = .noRoom) : T P E (Go.mark m) [] (fun _ B => B = []) := by
  intro w r f F es hs hA
  refine ⟨(), w, #[⟨.mark m, false, true⟩], r, f, [], ?_, ?_, rfl, hA⟩
  · show Sem.runT P (.mark m (.pure ())) w es = _
    simp [Sem.runT, -Sem.runT_eq]
  · refine ⟨hs, Hp.le_refl _, Nat.le_refl _, fun _ _ _ => rfl, fun _ x y => absurd y x, fun _ x y => absurd y x, fun e he => .inr ?_⟩
    simp at he; subst he
    exact ⟨m, rfl, h⟩

/-- Rows of cells. -/
theorem T.loadCellsFrom {A : HP} {a : Addr} : ∀ (n i : Nat) (acc cs : List Value), cs.length = n → (∀ j v, cs[j]? = some v → Has A (a.add (i + j)) v) →
    T P E (Go.loadCellsFrom a i n acc.toArray) [A] (fun x B => x = (acc ++ cs).toArray ∧ B = [A])
  | 0, i, acc, cs, hn, h => by
    cases cs with
    | nil => exact T.calm (Calm.pure _) ⟨by simp, rfl⟩
    | cons c cs => simp at hn
  | n + 1, i, acc, cs, hn, h => by
    cases cs with
    | nil => simp at hn
    | cons c cs =>
      refine T.bind (T.load (h 0 c rfl)) ?_
      rintro x _ ⟨hx, rfl⟩
      rw [hx]
      have := T.loadCellsFrom (A := A) (a := a) n (i + 1) (acc ++ [c]) cs (by simpa using hn) (fun j v hj => by
        have := h (j + 1) v (by simpa using hj)
        rwa [show i + (j + 1) = i + 1 + j by omega] at this)
      simpa using this
theorem T.loadCells {A : HP} {a : Addr} {n : Nat} {cs : List Value} (hn : cs.length = n) (h : ∀ j v, cs[j]? = some v → Has A (a.add j) v) :
    T P E (Go.loadCells a n) [A] (fun x B => x = cs.toArray ∧ B = [A]) := by
  have := T.loadCellsFrom (P := P) (E := E) (A := A) (a := a) n 0 [] cs hn (fun j v hj => by simpa using h j v hj)
  simpa [Go.loadCells] using this

/-- Cells laid over others, from one on. -/
def lay : List Value → Nat → List Value → List Value
  | c, _, [] => c
  | c, off, v :: vs => lay (c.set off v) (off + 1) vs
theorem lay_length : ∀ (vs c : List Value) (off : Nat), (lay c off vs).length = c.length
  | [], _, _ => rfl
  | v :: vs, c, off => by rw [lay, lay_length vs]; simp
theorem T.storeCells {b : Nat} {t : TypeId} {off : Nat} : ∀ (vs : List Value) (i : Nat) (c : List Value), (∀ v ∈ vs, oneC v = true) → off + i + vs.length ≤ c.length →
    T P E (Go.storeCells ⟨b, off, none⟩ vs i) [box b c t] (fun _ B => B = [box b (lay c (off + i) vs) t])
  | [], i, c, _, _ => T.calm (Calm.pure _) rfl
  | v :: vs, i, c, hv, hn => by
    have e : (⟨b, off, none⟩ : Addr).add i = ⟨b, off + i, none⟩ := by
      unfold Addr.add; split <;> simp_all
    refine T.bind (Q := fun _ B => B = [box b (c.set (off + i) v) t]) ?_ ?_
    · rw [e]; exact T.store (hv v (List.mem_cons_self ..)) (by simp at hn; omega)
    · rintro _ _ rfl
      have := T.storeCells (b := b) (t := t) (off := off) vs (i + 1) (c.set (off + i) v) (fun x hx => hv x (List.mem_cons_of_mem _ hx)) (by simp at hn ⊢; omega)
      exact this
end
end Go.KL
