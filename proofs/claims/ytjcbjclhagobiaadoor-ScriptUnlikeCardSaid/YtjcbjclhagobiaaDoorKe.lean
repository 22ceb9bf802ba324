/- Own program logic, part 5: the steps of control, operations, calls and returns. -/
import Derived.Test.YtjcbjclhagobiaaDoorKd
namespace Go.KL
open Go

abbrev Tm := List (Nat × Value)
def look : Tm → Nat → Option Value
  | [], _ => none
  | (d, v) :: L, t => cond (Nat.beq d t) (some v) (look L t)
structure Tm.ok (L : Tm) (n : Nat) (tmps : Array Value) : Prop where
  size : tmps.size = n
  h : ∀ t v, look L t = some v → tmps[t]? = some v
/-- What of a frame does not turn while its body is run. -/
structure Fx where
  fn : FuncId
  kind : CallKind
  defers : List Deferred
  roundOf : Option Nat
  n : Nat
def Fx.at (b : Fx) (tmps : Array Value) (todo : List Item) : Frame := { fn := b.fn, tmps, todo, defers := b.defers, mode := .run, kind := b.kind, roundOf := b.roundOf }

abbrev Xs := Goroutine → Hp → Hp → (Goroutine → Hp → Hp → Prop) → Prop
abbrev G := @Go.Conc.G

/-- A frame that is returning, with the value that it returns, and what is owned then. -/
structure Leaves (P : Program) (E : Env) (b : Fx) (fr : Frame) (v : Value) (s : List HP) : Prop where
  fn : fr.fn = b.fn
  kind : fr.kind = b.kind
  mode : fr.mode = .returning
  defers : fr.defers = b.defers
  res : ∃ fnc, P.funcs[b.fn]? = some fnc ∧ T P E (results fnc fr.tmps) s (fun x B => x = v ∧ B = s)

/-- What is to be done is safe, and returns as Post says. -/
def W (P : Program) (E : Env) (X : Xs) (b : Fx) (Post : Value → List HP → Prop) (todo : List Item) (L : Tm) (s : List HP) : Prop :=
  ∀ (K : Goroutine → Hp → Hp → Prop) (cs : List Frame) (F : List HP),
    (∀ fr v s' t r f, Leaves P E b fr v s' → (∀ r f, sep s' r f → sep t r f) → Post v t → sep (s' ++ F) r f → Safe P E X K (G fr cs) r f) →
    ∀ tmps r f, L.ok b.n tmps → sep (s ++ F) r f → Safe P E X K (G (b.at tmps todo) cs) r f

section
variable {P : Program} {E : Env} {X : Xs} {b : Fx} {Post : Value → List HP → Prop} {k : List Item} {L : Tm} {s : List HP}

theorem W.ctl {t t' : List Item} (h : ∀ tmps cs w, L.ok b.n tmps → stepG P true (G (b.at tmps t) cs) w = .go (G (b.at tmps t') cs) w) (g : W P E X b Post t' L s) : W P E X b Post t L s :=
  fun K cs F hr tmps r f hL hs => .idle rfl (fun w => h tmps cs w hL) (g K cs F hr tmps r f hL hs)
theorem W.seq {x y : Code} (g : W P E X b Post (.code x :: .code y :: k) L s) : W P E X b Post (.code (.seq x y) :: k) L s := W.ctl (fun _ _ _ _ => rfl) g
theorem W.skip (g : W P E X b Post k L s) : W P E X b Post (.code .skip :: k) L s := W.ctl (fun _ _ _ _ => rfl) g
theorem W.inBlock {i : Nat} (g : W P E X b Post k L s) : W P E X b Post (.inBlock i :: k) L s := W.ctl (fun _ _ _ _ => rfl) g
theorem W.block {i : Nat} {x : Code} (g : W P E X b Post (.code x :: .inBlock i :: k) L s) : W P E X b Post (.code (.block i x) :: k) L s := W.ctl (fun _ _ _ _ => rfl) g
theorem W.exit {i : Nat} {k' : List Item} (h : exitTo i k = some k') (g : W P E X b Post k' L s) : W P E X b Post (.code (.exit i) :: k) L s :=
  W.ctl (fun tmps cs w _ => by
    show (exitTo i k).elim _ _ = _
    rw [h]; rfl) g
theorem W.region {i : Nat} {ops : Array Oper} (g : W P E X b Post (.inRegion ops (List.range ops.size) :: k) L s) : W P E X b Post (.code (.region i ops false) :: k) L s := W.ctl (fun _ _ _ _ => rfl) g
theorem W.endRegion {ops : Array Oper} (g : W P E X b Post k L s) : W P E X b Post (.inRegion ops [] :: k) L s := W.ctl (fun _ _ _ _ => rfl) g

/-- Less is asked of what stands in slots, more is owned. -/
theorem W.weaken {t : List Item} {L' : Tm} {s' : List HP} (hL : ∀ t v, look L' t = some v → look L t = some v) (hs : ∀ r f, sep s r f → sep s' r f) (g : W P E X b Post t L' s') : W P E X b Post t L s := by
  intro K cs F hr tmps r f hok h
  refine g K cs F hr tmps r f ⟨hok.size, fun t v e => hok.h t v (hL t v e)⟩ ?_
  obtain ⟨f1, f2, d, l1, l2, h1, h2⟩ := sep_append.1 h
  exact sep_append.2 ⟨f1, f2, d, l1, l2, hs _ _ h1, h2⟩
theorem W.post {t : List Item} {Post' : Value → List HP → Prop} (h : ∀ v s, Post' v s → Post v s) (g : W P E X b Post' t L s) : W P E X b Post t L s :=
  fun K cs F hr tmps r f hok hs => g K cs F (fun fr v s' t r f hl he hp => hr fr v s' t r f hl he (h v t hp)) tmps r f hok hs

/-- A value of an operand. -/
def ev (L : Tm) : Operand → Option Value
  | .tmp t => look L t
  | .const v => some v
  | .global g => some (.pointer (some ⟨g, 0, none⟩))
  | .func f => some (.func (.func f) #[] #[])
theorem ev_eval {tmps : Array Value} {todo : List Item} (h : L.ok b.n tmps) {o : Operand} {v : Value} (e : ev L o = some v) : (b.at tmps todo).eval o = v := by
  cases o with
  | tmp t =>
    have := h.h t v e
    show tmps.getD t undef = v
    simp [Array.getD_eq_getD_getElem?, this]
  | const c => cases e; rfl
  | global g => cases e; rfl
  | func g => cases e; rfl

theorem W.cond {c : Operand} {x y : Code} {v : Bool} (hc : ev L c = some (.bool v)) (g1 : v = true → W P E X b Post (.code x :: k) L s) (g2 : v = false → W P E X b Post (.code y :: k) L s) : W P E X b Post (.code (.cond c x y) :: k) L s := by
  cases v with
  | true => exact W.ctl (fun tmps cs w h => by
      show (match (b.at tmps (.code (.cond c x y) :: k)).eval c with | .bool q => _ | _ => _) = _
      rw [ev_eval h hc]; rfl) (g1 rfl)
  | false => exact W.ctl (fun tmps cs w h => by
      show (match (b.at tmps (.code (.cond c x y) :: k)).eval c with | .bool q => _ | _ => _) = _
      rw [ev_eval h hc]; rfl) (g2 rfl)

/-- A loop: by a measure on what is indexed. -/
theorem W.loop {ι : Type} (m : ι → Nat) (C : ι → Prop) (Lf : ι → Tm) (sf : ι → List HP) {body : Code} (i0 : ι) (hC : C i0)
    (hL : ∀ t v, look (Lf i0) t = some v → look L t = some v) (hs : ∀ r f, sep s r f → sep (sf i0) r f)
    (g : ∀ i, C i → (∀ j, C j → m j < m i → W P E X b Post (.inLoop body :: k) (Lf j) (sf j)) → W P E X b Post (.code body :: .inLoop body :: k) (Lf i) (sf i)) : W P E X b Post (.code (.loop body) :: k) L s := by
  have key : ∀ n i, m i < n → C i → W P E X b Post (.code body :: .inLoop body :: k) (Lf i) (sf i) := by
    intro n
    induction n with
    | zero => intro i h; omega
    | succ n ih => intro i h hi; exact g i hi fun j hj hm => W.ctl (fun _ _ _ _ => rfl) (ih j (by omega) hj)
  exact W.ctl (fun _ _ _ _ => rfl) (W.weaken hL hs (key (m i0 + 1) i0 (Nat.lt_succ_self _) hC))

theorem mem_seen {p : Program} {fn : FuncId} {es : Array Event} {e : Event} (h : e ∈ seen p fn es) : e ∈ es := by
  unfold seen at h
  have key : ∀ (l : List Event) (q : Bool) (acc : Array Event), e ∈ (l.foldl (fun (x : Bool × Array Event) e => match e.loc with
      | .mark (.extern f) => ((p.funcs[f]?).any (·.norace), x.2)
      | _ => (x.1, if x.1 && !e.sync then x.2 else x.2.push e)) (q, acc)).2 → e ∈ acc ∨ e ∈ l := by
    intro l
    induction l with
    | nil => intro q acc h; exact .inl h
    | cons a l ih =>
      intro q acc h
      rw [List.foldl_cons] at h
      cases hl : a.loc with
      | mark m =>
        cases m with
        | extern f => simp only [hl] at h; rcases ih _ _ h with x | x <;> simp [x]
        | _ =>
          simp only [hl] at h
          rcases ih _ _ h with x | x
          · split at x
            · exact .inl x
            · rcases Array.mem_push.1 x with y | y <;> simp [y]
          · simp [x]
      | _ =>
        simp only [hl] at h
        rcases ih _ _ h with x | x
        · split at x
          · exact .inl x
          · rcases Array.mem_push.1 x with y | y <;> simp [y]
        · simp [x]
  dsimp only at h
  rw [← Array.foldl_toList] at h
  rcases key es.toList _ _ h with x | x
  · simp at x
  · simpa using x
end
end Go.KL
