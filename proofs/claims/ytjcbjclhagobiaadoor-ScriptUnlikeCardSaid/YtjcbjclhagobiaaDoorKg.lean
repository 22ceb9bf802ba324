/- Own program logic, part 7: calls and returns. -/
import Derived.Test.YtjcbjclhagobiaaDoorKf
import Derived.Laws.Sem
namespace Go.KL
open Go

def evs (L : Tm) : List Operand → Option (List Value)
  | [] => some []
  | x :: xs => match ev L x, evs L xs with
    | some v, some vs => some (v :: vs)
    | _, _ => none
theorem evs_map {L : Tm} {e' : Operand → Value} (h : ∀ x v, ev L x = some v → e' x = v) : ∀ {xs : List Operand} {vs : List Value}, evs L xs = some vs → xs.map e' = vs
  | [], _, e => by cases e; rfl
  | x :: xs, _, e => by
    unfold evs at e
    split at e
    · rename_i v vs h1 h2; cases e; rw [List.map_cons, h x v h1, evs_map h h2]
    · cases e
def argL : Nat → List Value → Tm
  | _, [] => []
  | i, v :: vs => (i, v) :: argL (i + 1) vs
theorem argL_look : ∀ {vs : List Value} {i t : Nat} {v : Value}, look (argL i vs) t = some v → i ≤ t ∧ vs[t - i]? = some v
  | [], _, _, _, h => by cases h
  | a :: vs, i, t, v, h => by
    rw [argL, look_cons] at h
    by_cases c : i = t
    · subst c; simp only [if_true] at h; cases h; exact ⟨Nat.le_refl _, by simp⟩
    · simp only [c, if_false] at h
      obtain ⟨h1, h2⟩ := argL_look h
      refine ⟨by omega, ?_⟩
      rw [show t - i = (t - (i + 1)) + 1 by omega]; simpa using h2

class TyFn (P : Program) (f : FuncId) (fnc : outParam Func) : Prop where
  h : P.funcs[f]? = some fnc

class TyRes (P : Program) (f : FuncId) (rs : outParam (List ResultVar)) : Prop where
  h : ∃ fnc, P.funcs[f]? = some fnc ∧ fnc.results.toList = rs

def frameSize (fnc : Func) (args : List Value) : Nat := args.length + (fnc.ntmps - args.length)
/-- What a function does: called with args, over what 'pre' says, it returns as Post says. -/
def Does (P : Program) (E : Env) (X : Xs) (f : FuncId) (args : List Value) (pre : List HP) (Post : Value → List HP → Prop) : Prop :=
  ∃ fnc body, P.funcs[f]? = some fnc ∧ fnc.body = some body ∧ (fnc.name == "runtime.NumGoroutine") = false ∧
    W P E X ⟨f, .normal, [], none, frameSize fnc args⟩ Post [.code body] (argL 0 args) pre

theorem Does.of {P : Program} {E : Env} {X : Xs} {f : FuncId} {args : List Value} {pre : List HP} {Post : Value → List HP → Prop} {fnc : Func} {body : Code} (n : Nat) (h : TyFn P f fnc) (hb : fnc.body = some body) (hn : (fnc.name == "runtime.NumGoroutine") = false) (hs : frameSize fnc args = n)
    (g : W P E X ⟨f, .normal, [], none, n⟩ Post [.code body] (argL 0 args) pre) : Does P E X f args pre Post := ⟨fnc, body, h.h, hb, hn, hs ▸ g⟩
theorem Does.post {P : Program} {E : Env} {X : Xs} {f : FuncId} {args : List Value} {pre : List HP} {Post Post' : Value → List HP → Prop} (h : Does P E X f args pre Post) (g : ∀ v s, Post v s → Post' v s) : Does P E X f args pre Post' := by
  obtain ⟨fnc, body, h1, h2, h3, h4⟩ := h
  exact ⟨fnc, body, h1, h2, h3, W.post g h4⟩

section
variable {P : Program} {E : Env} {X : Xs} {b : Fx} {Post : Value → List HP → Prop} {k : List Item} {L : Tm} {s : List HP}

theorem Calm.callFunc {f : FuncId} {fnc : Func} {body : Code} {args : Array Value} (h : P.funcs[f]? = some fnc) (hb : fnc.body = some body) (hn : (fnc.name == "runtime.NumGoroutine") = false) : Calm P (callFunc f args) (.enter f args) := by
  unfold Go.callFunc
  refine Calm.program.bind ?_
  simp only [h, hn, hb, Bool.false_eq_true, if_false, Option.isNone_some]
  exact Calm.pure _
theorem Calm.callOp {e' : Operand → Value} {o : Oper} {fo : Operand} {args : Array Operand} {ats : Array TypeId} {g : FuncId} {fi ca : Array Value} {fnc : Func} {body : Code} (ho : o.op = .call ⟨.value fo, args, ats⟩) (hf : e' fo = .func (.func g) fi ca)
    (h : P.funcs[g]? = some fnc) (hb : fnc.body = some body) (hn : (fnc.name == "runtime.NumGoroutine") = false) : Calm P (execOp e' o) (.enter g (fi ++ args.map e' ++ ca)) := by
  unfold execOp
  rw [ho]
  simp only
  refine Calm.bind (a := { target := .fn (.func g) ca, args := fi ++ args.map e' }) ?_ ?_
  · unfold resolve
    simp only [hf, Deferred.ofValue]
    exact Calm.pure _
  · simp only [invoke]
    exact Calm.callFunc h hb hn

/-- The value of a call's results. -/
def pack : List Value → Value
  | [v] => v
  | vs => .tuple vs.toArray
/-- What a result variable holds. -/
inductive Res (P : Program) (E : Env) (L : Tm) (s : List HP) : List ResultVar → List Value → Prop
  | nil : Res P E L s [] []
  | tmp {t : Nat} {v : Value} {rs : List ResultVar} {vs : List Value} (h : look L t = some v) (k : Res P E L s rs vs) : Res P E L s (.tmp t :: rs) (v :: vs)
  | cell {t : Nat} {ty : TypeId} {a : Addr} {v : Value} {rs : List ResultVar} {vs : List Value} (h : look L t = some (.pointer (some a))) (g : T P E (loadVar ty a) s (fun x B => x = v ∧ B = s)) (k : Res P E L s rs vs) : Res P E L s (.cell t ty :: rs) (v :: vs)

theorem Res.run {tmps : Array Value} {n : Nat} (hok : L.ok n tmps) {rs : List ResultVar} {vs : List Value} (h : Res P E L s rs vs) : T P E (rs.mapM fun
    | .tmp t => (pure (tmps.getD t undef) : Sem Value)
    | .cell a t => do loadVar t (← asAddr (tmps.getD a undef))) s (fun x B => x = vs ∧ B = s) := by
  induction h with
  | nil => exact T.calm (Calm.pure _) ⟨rfl, rfl⟩
  | @tmp t v rs vs h k ih =>
    rw [List.mapM_cons]
    have : tmps.getD t undef = v := by simp [Array.getD_eq_getD_getElem?, hok.h _ _ h]
    simp only [this]
    refine T.calmBind (Calm.pure _) (T.bind ih ?_)
    rintro x B ⟨hx, hB⟩
    exact T.calm (Calm.pure _) ⟨by rw [hx], hB⟩
  | @cell t ty a v rs vs h g k ih =>
    rw [List.mapM_cons]
    have : tmps.getD t undef = .pointer (some a) := by simp [Array.getD_eq_getD_getElem?, hok.h _ _ h]
    simp only [this]
    refine T.bind (Q := fun x B => x = v ∧ B = s) (T.calmBind (Calm.pure _) g) ?_
    rintro x B ⟨hx, hB⟩
    rw [hB]
    refine T.bind ih ?_
    rintro y C ⟨hy, hC⟩
    exact T.calm (Calm.pure _) ⟨by rw [hx, hy], hC⟩

theorem results_run {fnc : Func} {tmps : Array Value} {n : Nat} {vs : List Value} (hok : L.ok n tmps) (h : Res P E L s fnc.results.toList vs) : T P E (results fnc tmps) s (fun x B => x = pack vs ∧ B = s) := by
  unfold results
  rw [Array.mapM_eq_mapM_toList, map_eq_pure_bind]
  refine T.bind (Q := fun x B => x = vs.toArray ∧ B = s) (T.bind (h.run hok) ?_) ?_
  · rintro x _ ⟨hx, rfl⟩
    exact T.calm (Calm.pure _) ⟨by rw [hx], rfl⟩
  · rintro x _ ⟨hx, rfl⟩
    refine T.calm (Calm.pure _) ⟨?_, rfl⟩
    rw [hx]
    match vs with
    | [] => rfl
    | [v] => rfl
    | v :: w :: l => simp [pack]

theorem W.ret {fnc : Func} {vs : List Value} {t : List HP} (h : TyFn P b.fn fnc) (hro : b.roundOf = none) (hres : Res P E L s fnc.results.toList vs) (ht : ∀ r f, sep s r f → sep t r f) (hp : Post (pack vs) t) : W P E X b Post (.code .ret :: k) L s := by
  intro K cs F hr tmps r f hok hs
  refine .idle (g' := G { b.at tmps (.code .ret :: k) with mode := .returning } cs) rfl (fun w => ?_) (hr _ (pack vs) s t r f ?_ ht hp hs)
  · show (match b.roundOf with | none => _ | some l => _) = _
    rw [hro]; rfl
  · exact ⟨rfl, rfl, rfl, rfl, fnc, h.h, results_run hok hres⟩
/-- The body's end, with no return in it. -/
theorem W.fall {fnc : Func} {vs : List Value} {t : List HP} (h : TyFn P b.fn fnc) (hro : b.roundOf = none) (hres : Res P E L s fnc.results.toList vs) (ht : ∀ r f, sep s r f → sep t r f) (hp : Post (pack vs) t) : W P E X b Post [] L s := by
  intro K cs F hr tmps r f hok hs
  refine .idle (g' := G { b.at tmps [] with mode := .returning } cs) rfl (fun w => ?_) (hr _ (pack vs) s t r f ?_ ht hp hs)
  · show (match b.roundOf with | none => _ | some l => _) = _
    rw [hro]; rfl
  · exact ⟨rfl, rfl, rfl, rfl, fnc, h.h, results_run hok hres⟩

/-- The step out of a frame. -/
theorem safe_return {K : Goroutine → Hp → Hp → Prop} {b' : Fx} {fr c : Frame} {cs : List Frame} {v : Value} {s' F : List HP} {r f : Hp} (hk : b'.kind = .normal) (hd : b'.defers = []) (h : Leaves P E b' fr v s') (hs : sep (s' ++ F) r f)
    (g : ∀ r f, sep (s' ++ F) r f → Safe P E X K (G (c.finish v) cs) r f) : Safe P E X K (G fr (c :: cs)) r f := by
  obtain ⟨h1, h2, h3, h4, fnc, h5, h6⟩ := h
  refine .next rfl fun w hsat => ?_
  obtain ⟨x, w', es, r', f', s'', e1, k1, ⟨hx, hB⟩, s1⟩ := h6 w r f F #[] hsat hs
  subst hB
  have e0 : (#[] : Array Event) ++ es = es := by simp
  rw [e0] at e1
  refine ⟨G (c.finish v) cs, w', seen P fr.fn es, r', f', ?_, kept_evs k1 (fun e he => mem_seen he), g _ _ s1⟩
  have hst : stepG P true (G fr (c :: cs)) w = unwind P true fr (c :: cs) none w := by
    unfold stepG
    show (match (none : Option Dying), fr.mode with | some d@{ calling := false, .. }, _ => _ | _, .run => _ | _, _ => _) = _
    rw [h3]
  rw [hst]
  unfold unwind
  rw [h4, hd]
  simp only [h3, h1, h5, e1]
  simp only [doReturn, h2, hk, GStep.after, hx]
  simp [Go.Conc.G]

theorem enter_is {g : FuncId} {fnc : Func} {body : Code} {args : Array Value} (h : P.funcs[g]? = some fnc) (hb : fnc.body = some body) :
    Frame.enter P g args .normal = (⟨g, .normal, [], none, frameSize fnc args.toList⟩ : Fx).at (args ++ Array.replicate (fnc.ntmps - args.size) undef) [.code body] := by
  unfold Frame.enter
  simp only [h, Option.map_some, Option.getD_some, Option.bind_some, hb]
  rfl
theorem enter_ok {fnc : Func} {args : Array Value} : (argL 0 args.toList).ok (frameSize fnc args.toList) (args ++ Array.replicate (fnc.ntmps - args.size) undef) := by
  refine ⟨by simp [frameSize], fun t v h => ?_⟩
  obtain ⟨_, h2⟩ := argL_look h
  simp only [Nat.sub_zero] at h2
  have : args[t]? = some v := by simpa using h2
  rw [Array.getElem?_append_left]
  · exact this
  · rw [Array.getElem?_eq_some_iff] at this; exact this.1

/-- A call. -/
theorem Ex.call {o : Oper} {fo : Operand} {args : Array Operand} {ats : Array TypeId} {g : FuncId} {fi ca : Array Value} {vs as : List Value} {pre F : List HP} {Post' : Value → List HP → Prop}
    (ho : o.op = .call ⟨.value fo, args, ats⟩) (hf : ev L fo = some (.func (.func g) fi ca)) (ha : evs L args.toList = some vs) (has : fi.toList ++ vs ++ ca.toList = as)
    (hsp : Does P E X g as pre Post') (hsel : ∀ r f, sep s r f → sep (pre ++ F) r f) : Ex P E X b L s o (fun v s' => ∃ t, Post' v t ∧ s' = t ++ F) := by
  subst has
  intro K cs F' l i is k tmps r f h hw hag hs gk
  obtain ⟨fnc, body, p1, p2, p3, p4⟩ := hsp
  obtain ⟨e'', he, hx⟩ := hybrid (L := L) (o := o) (by rw [ho]; rfl) (e' := (b.at tmps (.inRegion l.toArray (i :: is) :: k)).eval) (fun x hx v e => ev_evalO hag hx e)
  have hm : args.map e'' = vs.toArray := by
    have := evs_map he ha
    apply Array.ext'
    simpa using this
  have hc := Calm.callOp (P := P) (e' := e'') ho (he _ _ hf) p1 p2 p3
  rw [hm, ← hx] at hc
  refine .next rfl fun w hsat => ⟨G (Frame.enter P g (fi ++ vs.toArray ++ ca) .normal) (b.at tmps (.inRegion l.toArray (i :: is) :: k) :: cs), w, seen P b.fn (if b.kind == .early then #[] else #[]), r, f, ?_, kept_evs (Kept.refl hsat) (fun e he => ?_), ?_⟩
  · rw [step_oper h hw (.inr (by rw [ho]; rfl))]
    unfold stepG.apply
    simp only [if_true, hc w #[]]
    rfl
  · have := mem_seen he
    split at this <;> simp at this
  · show Safe P E X K (G (Frame.enter P g (fi ++ vs.toArray ++ ca) .normal) (b.at tmps (.inRegion l.toArray (i :: is) :: k) :: cs)) r f
    rw [enter_is p1 p2]
    have ea : (fi ++ vs.toArray ++ ca).toList = fi.toList ++ vs ++ ca.toList := by simp
    have hs' : sep (pre ++ (F ++ F')) r f := by
      rw [← List.append_assoc]
      obtain ⟨f1, f2, d, l1, l2, h1, h2⟩ := sep_append.1 hs
      exact sep_append.2 ⟨f1, f2, d, l1, l2, hsel _ _ h1, h2⟩
    rw [← ea] at p4
    refine p4 K (b.at tmps (.inRegion l.toArray (i :: is) :: k) :: cs) (F ++ F') ?_ _ r f enter_ok hs'
    intro fr v s' t r f hl he hp hss
    refine safe_return rfl rfl hl hss fun r f hss => ?_
    rw [finish_at h]
    refine gk v (t ++ F) r f ⟨t, hp, rfl⟩ ?_
    rw [List.append_assoc]
    obtain ⟨f1, f2, d, l1, l2, h1, h2⟩ := sep_append.1 hss
    exact sep_append.2 ⟨f1, f2, d, l1, l2, he _ _ h1, h2⟩
end
end Go.KL
