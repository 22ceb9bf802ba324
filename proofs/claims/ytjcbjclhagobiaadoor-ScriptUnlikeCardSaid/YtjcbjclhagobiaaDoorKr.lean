/- Own program logic, part 18: from a contract to a lone run. -/
import Derived.Test.YtjcbjclhagobiaaDoorKg
import Derived.Calls
import Derived.Conc.LoneCalls
namespace Go.KL
open Go Go.Conc

def NoX : Xs := fun _ _ _ _ => False

/-- Behind steps: what was there and is not owned stands. -/
structure Ran (w : World) (f : Hp) (w' : World) (f' : Hp) : Prop where
  size : w.heap.size ≤ w'.heap.size
  keep : ∀ n, n < w.heap.size → f n = none → w'.heap[n]? = w.heap[n]?
  fresh : ∀ n, f' n ≠ none → f n = none → w.heap.size ≤ n
theorem Ran.refl {w : World} {f : Hp} : Ran w f w f := ⟨Nat.le_refl _, fun _ _ _ => rfl, fun _ h k => absurd k h⟩
theorem Ran.trans {w w1 w2 : World} {f f1 f2 : Hp} (h : Ran w f w1 f1) (k : Ran w1 f1 w2 f2) : Ran w f w2 f2 := by
  refine ⟨Nat.le_trans h.size k.size, fun n hn hf => ?_, fun n hn hf => ?_⟩
  · rw [k.keep n (Nat.lt_of_lt_of_le hn h.size), h.keep n hn hf]
    cases e : f1 n with
    | none => rfl
    | some o => exact absurd (h.fresh n (by rw [e]; simp) hf) (Nat.not_le.2 hn)
  · by_cases e : f1 n = none
    · exact Nat.le_trans h.size (k.fresh n hn e)
    · exact h.fresh n e hf
theorem Ran.drop {w w' : World} {f f1 f2 : Hp} (l : f1.le f) (h : Ran w f1 w' f2) : Ran w f w' f2 :=
  ⟨h.size, fun n hn hf => h.keep n hn (l.none hf), fun n hn hf => h.fresh n hn (l.none hf)⟩
theorem Kept.ran {E : Env} {w w' : World} {r f r' f' : Hp} {es : Array Event} (h : Kept E w r f w' es r' f') : Ran w f w' f' := ⟨h.size, h.keep, h.fresh⟩

theorem Safe.run {P : Program} {E : Env} {K : Goroutine → Hp → Hp → Prop} {g : Goroutine} {r f : Hp} (h : Safe P E NoX K g r f) : ∀ w, Sat E w r f → ∃ g' w' r' f', K g' r' f' ∧ Sat E w' r' f' ∧ Steps P (solo g w) (solo g' w') ∧ Ran w f w' f' := by
  induction h with
  | stop h => exact fun w hs => ⟨_, w, _, _, h, hs, Steps.refl _ _, .refl⟩
  | step N hs h _ ih =>
    intro w hw
    obtain ⟨e, k⟩ := h w hw
    obtain ⟨g', w', r', f', a, b, c, d⟩ := ih w hw _ k.sat
    exact ⟨g', w', r', f', a, b, Steps.head (step_solo_go hs e) c, k.ran.trans d⟩
  | ghost hr hf hd hn _ ih =>
    intro w hw
    obtain ⟨g', w', r', f', a, b, c, d⟩ := ih w (hw.ghost hr hf hd hn)
    exact ⟨g', w', r', f', a, b, c, .drop hf d⟩
  | big h => exact h.elim

/-- It leaves the world as it is. -/
def Rdo {α : Type} (P : Program) (m : Sem α) : Prop := ∀ w a w', m.run P w = .ok a w' → w' = w
section
variable {P : Program} {α β : Type}
theorem Rdo.pure (a : α) : Rdo P (Pure.pure a : Sem α) := fun w a' w' h => by cases h; rfl
theorem Rdo.bind {m : Sem α} {k : α → Sem β} (h : Rdo P m) (g : ∀ a, Rdo P (k a)) : Rdo P (m >>= k) := by
  intro w b w' e
  have e : (Sem.bind m k).run P w = .ok b w' := e
  have e2 : (m.run P w).andThen (fun a w' => (k a).run P w') = .ok b w' := (Sem.run_bind' P m k w).symm.trans e
  cases hm : m.run P w with
  | ok a w1 => rw [hm] at e2; have := h w a w1 hm; subst this; exact g a _ _ _ e2
  | halt x w1 => rw [hm] at e2; cases e2
theorem Rdo.map {m : Sem α} (g : α → β) (h : Rdo P m) : Rdo P (g <$> m) := by
  rw [map_eq_pure_bind]; exact h.bind fun a => .pure _
theorem Rdo.stuck (s : String) : Rdo P (Go.stuck s : Sem α) := fun w a w' h => by cases h
theorem Rdo.program : Rdo P Go.program := fun w a w' h => by cases h; rfl
theorem Rdo.underlying (t : TypeId) : Rdo P (Go.underlying t) := Rdo.program.bind fun p => by
  show Rdo P (match p.underlying t with | some d => _ | none => _)
  split
  · exact .pure _
  · exact .stuck _
theorem Rdo.typeInfo (t : TypeId) : Rdo P (Go.typeInfo t) := Rdo.program.bind fun p => by
  show Rdo P (match p.info? t with | some d => _ | none => _)
  split
  · exact .pure _
  · exact .stuck _
theorem Rdo.load (a : Addr) : Rdo P (Go.load a) := by
  intro w x w' h
  have h : Sem.run P (.load .plain a .pure) w = .ok x w' := h
  rw [Sem.run] at h
  cases hc : w.cell? a with
  | some v => rw [hc] at h; cases h; rfl
  | none =>
    rw [hc] at h
    simp only at h
    split at h
    · cases h; rfl
    · cases h
theorem Rdo.isAgg (t : TypeId) : Rdo P (Go.isAgg t) := (Rdo.underlying t).bind fun d => by cases d <;> exact .pure _
theorem Rdo.sizeOf (t : TypeId) : Rdo P (Go.sizeOf t) := (Rdo.typeInfo t).bind fun i => .pure _
theorem Rdo.loadCellsFrom (a : Addr) : ∀ (n i : Nat) (acc : Array Value), Rdo P (Go.loadCellsFrom a i n acc)
  | 0, _, _ => .pure _
  | n + 1, i, acc => (Rdo.load _).bind fun v => Rdo.loadCellsFrom a n (i + 1) _
theorem Rdo.loadVar (t : TypeId) (a : Addr) : Rdo P (Go.loadVar t a) := (Rdo.isAgg t).bind fun q => by
  cases q
  · exact Rdo.load _
  · exact (Rdo.sizeOf t).bind fun n => (Rdo.loadCellsFrom a n 0 #[]).bind fun v => .pure _
theorem Rdo.asAddr (v : Value) : Rdo P (Go.asAddr v) := by
  unfold Go.asAddr
  split
  · exact .pure _
  · intro w a w' h; cases h
  · exact .stuck _
theorem Rdo.mapM {f : α → Sem β} (h : ∀ a, Rdo P (f a)) : ∀ l : List α, Rdo P (l.mapM f)
  | [] => .pure _
  | a :: l => by rw [List.mapM_cons]; exact (h a).bind fun b => (Rdo.mapM h l).bind fun bs => .pure _
theorem Rdo.results (fnc : Func) (tmps : Array Value) : Rdo P (Go.results fnc tmps) := by
  unfold Go.results
  rw [Array.mapM_eq_mapM_toList]
  refine Rdo.bind (Rdo.map _ (Rdo.mapM (fun r => ?_) _)) fun vs => ?_
  · cases r with
    | tmp t => exact .pure _
    | cell a t => exact (Rdo.asAddr _).bind fun a => Rdo.loadVar t a
  · split <;> exact .pure _
end

/-- A contract in the kit's words: from a world of which all may be read. -/
theorem Does.calls {P : Program} {f : FuncId} {args : List Value} {pre : List HP} {Post : Value → List HP → Prop} {W : World}
    (hd : Does P ⟨W.os, W.output, W.tape⟩ NoX f args pre Post) (hpre : sep pre W.hp Hp.emp) :
    Calls P f args.toArray W fun e W' => ∃ v, e = .returned v ∧ (∃ t r g, Post v t ∧ sep t r g ∧ Sat ⟨W.os, W.output, W.tape⟩ W' r g) ∧ Ran W Hp.emp W' Hp.emp := by
  intro cs
  obtain ⟨fnc, body, h1, h2, h3, h4⟩ := hd
  let b : Fx := ⟨f, .normal, [], none, frameSize fnc args⟩
  let K : Goroutine → Hp → Hp → Prop := fun g r f' => ∃ fr v s' t, g = G fr cs ∧ Leaves P ⟨W.os, W.output, W.tape⟩ b fr v s' ∧ (∀ r f, sep s' r f → sep t r f) ∧ Post v t ∧ sep s' r f'
  have hs : Safe P ⟨W.os, W.output, W.tape⟩ NoX K (G (b.at (args.toArray ++ Array.replicate (fnc.ntmps - args.toArray.size) undef) [.code body]) cs) W.hp Hp.emp :=
    h4 K cs [] (fun fr v s' t r f' hl he hp hss => .stop ⟨fr, v, s', t, rfl, hl, he, hp, by simpa using hss⟩) _ _ _ (by simpa using enter_ok (fnc := fnc) (args := args.toArray)) (by simpa using hpre)
  obtain ⟨g', w', r', f', ⟨fr, v, s', t, rfl, hl, he, hp, hss⟩, hsat, hst, hran⟩ := hs.run W ⟨rfl, rfl, rfl, Hp.le_refl _, Hp.emp_le _, Hp.disj_emp _⟩
  have hent := enter_is (P := P) (args := args.toArray) h1 h2
  obtain ⟨l1, l2, l3, l4, fnc', l5, l6⟩ := hl
  obtain ⟨x, w'', es, r'', f'', s'', e1, k1, ⟨rfl, rfl⟩, s1⟩ := l6 w' r' f' [] #[] hsat (by simpa using hss)
  have hrun : (results fnc' fr.tmps).run P w' = .ok x w'' := by rw [← Sem.runT_fst P _ w' #[], e1]
  have := Rdo.results fnc' fr.tmps w' x w'' hrun
  subst this
  refine ⟨.returned x, w'', fr, ⟨x, rfl, ⟨t, r', f', hp, he _ _ hss, hsat⟩, hran.size, hran.keep, fun n hn => absurd rfl hn⟩, ?_, l1, ⟨l3, l4, l2, fnc', by rw [l1]; exact l5, hrun⟩⟩
  show Steps P _ _
  have hst' := hst
  rw [show (G (b.at (args.toArray ++ Array.replicate (fnc.ntmps - args.toArray.size) undef) [.code body]) cs) = G (Frame.enter P f args.toArray .normal) cs by rw [hent]] at hst'
  exact hst'
end Go.KL
