/- Own program logic, part 12: regions that draw their order. What only computes or reads is taken ahead, at once; what acts is taken when nothing else can come up. -/
import Derived.Test.YtjcbjclhagobiaaDoorKk
namespace Go.KL
open Go

def edgesOf (o : Oper) : List Nat := (o.after.toList.filter (Region.binds .any ·)).map (·.on)
theorem mem_edgesOf {o : Oper} {x : Nat} : x ∈ edgesOf o ↔ ∃ e ∈ o.after, Region.binds .any e = true ∧ e.on = x := by
  unfold edgesOf
  simp only [List.mem_map, List.mem_filter, Array.mem_toList_iff]
  constructor
  · rintro ⟨e, ⟨h1, h2⟩, h3⟩; exact ⟨e, h1, h2, h3⟩
  · rintro ⟨e, h1, h2, h3⟩; exact ⟨e, ⟨h1, h2⟩, h3⟩
def bit (M : List Nat) (j i : Nat) : Bool := (M.getD j 0).testBit i
def orAll (M : List Nat) : List Nat → Nat
  | [] => 0
  | e :: es => 2 ^ e ||| M.getD e 0 ||| orAll M es
theorem orAll_bit {M : List Nat} {i : Nat} : ∀ {es : List Nat}, (orAll M es).testBit i = true → ∃ e ∈ es, i = e ∨ bit M e i = true
  | [], h => by simp [orAll] at h
  | e :: es, h => by
    simp only [orAll, Nat.testBit_or, Bool.or_eq_true, Nat.testBit_two_pow, decide_eq_true_eq] at h
    rcases h with (h | h) | h
    · exact ⟨e, by simp, .inl h.symm⟩
    · exact ⟨e, by simp, .inr h⟩
    · obtain ⟨x, h1, h2⟩ := orAll_bit h
      exact ⟨x, by simp [h1], h2⟩
theorem bit_orAll {M : List Nat} {i : Nat} : ∀ {es : List Nat}, i ∈ es → (orAll M es).testBit i = true
  | e :: es, h => by
    simp only [orAll, Nat.testBit_or, Bool.or_eq_true, Nat.testBit_two_pow, decide_eq_true_eq]
    rcases List.mem_cons.1 h with rfl | h
    · exact .inl (.inl rfl)
    · exact .inr (bit_orAll h)
def maskB (M : List Nat) : Nat → List Oper → Bool
  | _, [] => true
  | j, o :: l => (edgesOf o).all (fun e => Nat.blt e j) && Nat.beq (M.getD j 0) (orAll M (edgesOf o)) && maskB M (j + 1) l
theorem maskB_spec {M : List Nat} : ∀ {l : List Oper} {n : Nat}, maskB M n l = true → ∀ j o, l[j]? = some o → (∀ e ∈ edgesOf o, e < n + j) ∧ M.getD (n + j) 0 = orAll M (edgesOf o)
  | [], _, _, j, o, h => by simp at h
  | a :: l, n, hb, j, o, h => by
    simp only [maskB, Bool.and_eq_true, List.all_eq_true] at hb
    cases j with
    | zero =>
      simp at h; subst h
      exact ⟨fun e he => blt_lt (hb.1.1 e he), Nat.eq_of_beq_eq_true hb.1.2⟩
    | succ j =>
      have := maskB_spec hb.2 j o (by simpa using h)
      rwa [show n + 1 + j = n + (j + 1) by omega] at this
def temps (o : Oper) : List Nat := o.op.operands.toList.filterMap fun | .tmp t => some t | _ => none
theorem mem_temps {o : Oper} {t : Nat} : t ∈ temps o ↔ Operand.tmp t ∈ o.op.operands := by
  unfold temps
  rw [List.mem_filterMap]
  constructor
  · rintro ⟨x, h1, h2⟩
    cases x <;> simp only [Option.some.injEq, reduceCtorEq] at h2
    subst h2; simpa using h1
  · intro h; exact ⟨.tmp t, by simpa using h, rfl⟩
/-- What the check looks at, of an operation. -/
structure Row where
  ix : Nat
  dst : Option Nat
  rd : List Nat
  m : Nat
  lt : Bool
def rowsOf (l : List Oper) (M eff : List Nat) : Nat → List Oper → List Row
  | _, [] => []
  | n, o :: r => ⟨n, o.dst, temps o ++ guardAt l o, M.getD n 0, !eff.contains n⟩ :: rowsOf l M eff (n + 1) r
theorem rowsOf_spec {l : List Oper} {M eff : List Nat} : ∀ {r : List Oper} {n j : Nat} {o : Oper}, r[j]? = some o → (rowsOf l M eff n r)[j]? = some ⟨n + j, o.dst, temps o ++ guardAt l o, M.getD (n + j) 0, !eff.contains (n + j)⟩
  | [], _, _, _, h => by simp at h
  | a :: r, n, 0, o, h => by simp at h; subst h; simp [rowsOf]
  | a :: r, n, j + 1, o, h => by
    have := rowsOf_spec (l := l) (M := M) (eff := eff) (n := n + 1) (j := j) (o := o) (by simpa using h)
    simp only [rowsOf, List.getElem?_cons_succ]
    rw [this, show n + 1 + j = n + (j + 1) by omega]
def noIn (d : Option Nat) (l : List Nat) : Bool := match d with
  | none => true
  | some d => !l.contains d
def unlike (d e : Option Nat) : Bool := match d, e with
  | some d, some e => !Nat.beq d e
  | _, _ => true
/-- Of two operations, a the earlier in the text. -/
def pairB (a b : Row) : Bool :=
  (b.m.testBit a.ix || (noIn a.dst b.rd && noIn b.dst a.rd)) && (!(a.lt || b.lt) || unlike a.dst b.dst) && (!b.lt || noIn b.dst a.rd)
def pairsB : List Row → Bool
  | [] => true
  | (a : Row) :: l => (!Row.lt a || noIn a.dst a.rd) && l.all (pairB a) && pairsB l
theorem pairsB_spec : ∀ {l : List Row}, pairsB l = true → (∀ (i : Nat) (a : Row), l[i]? = some a → (!a.lt || noIn a.dst a.rd) = true) ∧ ∀ (i j : Nat) (a b : Row), i < j → l[i]? = some a → l[j]? = some b → pairB a b = true
  | [], _ => ⟨fun i a h => by simp at h, fun i j a b _ h => by simp at h⟩
  | x :: l, h => by
    simp only [pairsB, Bool.and_eq_true, List.all_eq_true] at h
    obtain ⟨⟨h0, h1⟩, h2⟩ := h
    obtain ⟨k1, k2⟩ := pairsB_spec h2
    refine ⟨fun i a e => ?_, fun i j a b hij e e' => ?_⟩
    · cases i with
      | zero => simp at e; subst e; exact h0
      | succ i => exact k1 i a (by simpa using e)
    · cases j with
      | zero => omega
      | succ j =>
        cases i with
        | zero => simp at e; subst e; exact h1 b (List.mem_of_getElem? (by simpa using e'))
        | succ i => exact k2 i j a b (by omega) (by simpa using e) (by simpa using e')
/-- The order in which the operations are taken. -/
def sufB (M eff rdx : List Nat) (n : Nat) : Nat → List Nat → Bool
  | done, [] => Nat.beq done (2 ^ n - 1)
  | done, j :: σ => Nat.beq (M.getD j 0 &&& done) (M.getD j 0) && !done.testBit j && Nat.blt j n &&
      (!eff.contains j || σ.all (fun m => bit M m j)) && sufB M eff rdx n (done ||| 2 ^ j) σ
def planB (l : List Oper) (M eff rdx σ : List Nat) : Bool := maskB M 0 l && pairsB (rowsOf l M eff 0 l) && sufB M eff rdx l.length 0 σ
def pickOps (l : List Oper) : List Nat → Option (List (Nat × Oper))
  | [] => some []
  | j :: σ => match l[j]?, pickOps l σ with
    | some o, some r => some ((j, o) :: r)
    | _, _ => none

/-- What the check says. -/
structure Plan (l : List Oper) (M eff rdx : List Nat) : Prop where
  edge : ∀ j o, l[j]? = some o → ∀ e ∈ o.after, Region.binds .any e = true → e.on < j ∧ bit M j e.on = true
  mask : ∀ j o i, l[j]? = some o → bit M j i = true → ∃ e ∈ o.after, Region.binds .any e = true ∧ (i = e.on ∨ bit M e.on i = true)
  own : ∀ i o, l[i]? = some o → eff.contains i = false → ∀ d, o.dst = some d → d ∉ temps o ++ guardAt l o
  reads : ∀ i j oi oj d, i ≠ j → l[i]? = some oi → l[j]? = some oj → oi.dst = some d → d ∈ temps oj ++ guardAt l oj → (i < j ∧ bit M j i = true) ∨ (j < i ∧ bit M i j = true ∧ eff.contains i = true)
  one : ∀ i j oi oj d, i ≠ j → l[i]? = some oi → l[j]? = some oj → eff.contains i = false → oi.dst = some d → oj.dst ≠ some d
theorem noIn_spec {d : Nat} {l : List Nat} (h : noIn (some d) l = true) : d ∉ l := by
  intro k
  simp [noIn] at h
  exact h k
theorem Plan.of {l : List Oper} {M eff rdx σ : List Nat} (h : planB l M eff rdx σ = true) : Plan l M eff rdx ∧ sufB M eff rdx l.length 0 σ = true := by
  simp only [planB, Bool.and_eq_true] at h
  obtain ⟨⟨h1, h2⟩, h3⟩ := h
  refine ⟨?_, h3⟩
  have hm := maskB_spec h1
  obtain ⟨p1, p2⟩ := pairsB_spec h2
  have row : ∀ j o, l[j]? = some o → (rowsOf l M eff 0 l)[j]? = some (⟨j, o.dst, temps o ++ guardAt l o, M.getD j 0, !eff.contains j⟩ : Row) := fun j o ho => by
    have := rowsOf_spec (l := l) (M := M) (eff := eff) (n := 0) ho
    simpa only [Nat.zero_add] using this
  refine ⟨fun j o ho e he hb => ?_, fun j o i ho hi => ?_, fun i o ho he d hd => ?_, fun i j oi oj d hne hi hj hd hr => ?_, fun i j oi oj d hne hi hj he hd hd' => ?_⟩
  · obtain ⟨k1, k2⟩ := hm j o ho
    have hmem : e.on ∈ edgesOf o := mem_edgesOf.2 ⟨e, he, hb, rfl⟩
    refine ⟨by have := k1 _ hmem; omega, ?_⟩
    unfold bit; rw [Nat.zero_add] at k2; rw [k2]; exact bit_orAll hmem
  · obtain ⟨k1, k2⟩ := hm j o ho
    unfold bit at hi; rw [Nat.zero_add] at k2; rw [k2] at hi
    obtain ⟨x, hx, hh⟩ := orAll_bit hi
    obtain ⟨e, e1, e2, rfl⟩ := mem_edgesOf.1 hx
    exact ⟨e, e1, e2, hh⟩
  · have := p1 i _ (row i o ho)
    simp only [he, Bool.not_false, Bool.not_true, Bool.false_or, hd] at this
    exact noIn_spec this
  · rcases Nat.lt_or_gt_of_ne hne with hlt | hlt
    · have := p2 i j _ _ hlt (row i oi hi) (row j oj hj)
      simp only [pairB, Bool.and_eq_true, Bool.or_eq_true, hd] at this
      rcases this.1.1 with x | x
      · exact .inl ⟨hlt, x⟩
      · exact absurd hr (noIn_spec x.1)
    · have := p2 j i _ _ hlt (row j oj hj) (row i oi hi)
      simp only [pairB, Bool.and_eq_true, Bool.or_eq_true, hd] at this
      refine .inr ⟨hlt, ?_, ?_⟩
      · rcases this.1.1 with x | x
        · exact x
        · exact absurd hr (noIn_spec x.2)
      · rcases this.2 with x | x
        · simpa using x
        · exact absurd hr (noIn_spec x)
  · rcases Nat.lt_or_gt_of_ne hne with hlt | hlt
    · have := p2 i j _ _ hlt (row i oi hi) (row j oj hj)
      have he' : i ∉ eff := by simpa using he
      simp [pairB, hd, hd', unlike] at this
      exact he' this.1.2.1
    · have := p2 j i _ _ hlt (row j oj hj) (row i oi hi)
      have he' : i ∉ eff := by simpa using he
      simp [pairB, hd, hd', unlike] at this
      exact he' this.1.2.2

theorem lin_succ {ops : Array Oper} {fuel t : Nat} {listed : Array Bool} : (∃ i ∈ Region.ready .any ops listed, ∃ t', Region.linearise.go .any ops (fuel + 1) t listed [] = i :: Region.linearise.go .any ops fuel t' (listed.setIfInBounds i true) []) ∨ (Region.ready .any ops listed = [] ∧ Region.linearise.go .any ops (fuel + 1) t listed [] = []) := by
  simp only [Region.linearise.go]
  change (∃ i ∈ Region.ready .any ops listed, ∃ t', (match (Region.ready .any ops listed)[t % (Region.ready .any ops listed).length]? with
      | some i => Region.linearise.go .any ops fuel (t / (Region.ready .any ops listed).length) (listed.setIfInBounds i true) [i]
      | none => [].reverse) = _) ∨ (Region.ready .any ops listed = [] ∧ (match (Region.ready .any ops listed)[t % (Region.ready .any ops listed).length]? with
      | some i => Region.linearise.go .any ops fuel (t / (Region.ready .any ops listed).length) (listed.setIfInBounds i true) [i]
      | none => [].reverse) = [])
  cases hi : (Region.ready .any ops listed)[t % (Region.ready .any ops listed).length]? with
  | none =>
    right
    refine ⟨?_, rfl⟩
    cases hr : Region.ready .any ops listed with
    | nil => rfl
    | cons x xs =>
      rw [hr] at hi
      have hlt : t % (x :: xs).length < (x :: xs).length := Nat.mod_lt _ (by simp)
      simp at hi
      simp at hlt
      omega
  | some i =>
    left
    refine ⟨i, List.mem_of_getElem? hi, t / (Region.ready .any ops listed).length, ?_⟩
    simp only
    rw [linearise_go_acc, List.reverse_singleton, List.singleton_append]

/-- How many are still to come up. -/
def left (listed : Array Bool) : Nat := listed.toList.countP (· == false)
theorem left_set {listed : Array Bool} {i : Nat} (h : listed.getD i true = false) : left (listed.setIfInBounds i true) + 1 = left listed := by
  have hi : i < listed.size := by
    rcases Nat.lt_or_ge i listed.size with h' | h'
    · exact h'
    · simp [Array.getElem?_eq_none h'] at h
  have hv : listed.toList[i]? = some false := by
    simp [Array.getElem?_eq_getElem hi] at h
    simp [hi, h]
  have key : ∀ (l : List Bool) (i : Nat), l[i]? = some false → (l.set i true).countP (· == false) + 1 = l.countP (· == false) := by
    intro l
    induction l with
    | nil => intro i h; simp at h
    | cons a l ih =>
      intro i h
      cases i with
      | zero => simp at h; subst h; simp
      | succ i =>
        have := ih i (by simpa using h)
        simp only [List.set_cons_succ, List.countP_cons]
        omega
  unfold left
  have := key listed.toList i hv
  simpa using this
theorem left_zero {listed : Array Bool} (h : left listed = 0) {i : Nat} : listed.getD i true = true := by
  unfold left at h
  rw [List.countP_eq_zero] at h
  by_cases hi : i < listed.size
  · have := h listed[i] (by simp)
    simp [Array.getElem?_eq_getElem hi]
    simpa using this
  · simp [Array.getElem?_eq_none (Nat.le_of_not_lt hi)]
theorem min_false {listed : Array Bool} : ∀ (n i : Nat), i ≤ n → listed.getD i true = false → ∃ j, j ≤ i ∧ listed.getD j true = false ∧ ∀ x < j, listed.getD x true = true := by
  intro n
  induction n with
  | zero => intro i hi h; exact ⟨i, Nat.le_refl _, h, fun x hx => by omega⟩
  | succ n ih =>
    intro i hi h
    by_cases c : ∃ x < i, listed.getD x true = false
    · obtain ⟨x, hx, hx'⟩ := c
      obtain ⟨j, h1, h2, h3⟩ := ih x (by omega) hx'
      exact ⟨j, by omega, h2, h3⟩
    · refine ⟨i, Nat.le_refl _, h, fun x hx => ?_⟩
      cases hh : listed.getD x true with
      | true => rfl
      | false => exact absurd ⟨x, hx, hh⟩ c
theorem getD_tf {listed : Array Bool} {i : Nat} (hi : i < listed.size) : listed.getD i true = listed.getD i false := by simp [hi]

section
variable {P : Program} {E : Env} {X : Xs} {b : Fx} {Post : Value → List HP → Prop} {k : List Item} {L : Tm} {s : List HP} {l : List Oper} {M eff rdx : List Nat}

theorem Cm.mono {o : Oper} {v : Value} {L' : Tm} (h : Cm P L o v) (hl : ∀ t ∈ temps o, look L t = look L' t) : Cm P L' o v := fun e' he =>
  h e' fun x hx u hu => he x hx u (by
    cases x with
    | tmp t => have := hl t (mem_temps.2 hx); show look L' t = _; rw [← this]; exact hu
    | _ => exact hu)
theorem Lt.mono {o : Oper} {v : Value} {L' : Tm} (h : Lt P E L s o v) (hl : ∀ t ∈ temps o, look L t = look L' t) : Lt P E L' s o v := fun e' he =>
  h e' fun x hx u hu => he x hx u (by
    cases x with
    | tmp t => have := hl t (mem_temps.2 hx); show look L' t = _; rw [← this]; exact hu
    | _ => exact hu)
theorem Want.mono {o : Oper} {y : Bool} {L' : Tm} (h : Want L l o y) (hl : ∀ t ∈ guardAt l o, look L t = look L' t) : Want L' l o y := by
  unfold Want at h ⊢; unfold guardAt at hl
  cases hg : o.guard with
  | none => rw [hg] at h; exact h
  | some p =>
    obtain ⟨j, w⟩ := p
    rw [hg] at h
    simp only [hg] at hl
    obtain ⟨d, h1, h2⟩ := h
    refine ⟨d, h1, ?_⟩
    rw [h1] at hl
    have := hl d (by simp)
    rw [this] at h2; exact h2

/-- All that act behind come behind it. -/
def aheadB (M eff : List Nat) (i : Nat) (σ : List Nat) : Bool := σ.all fun j => !eff.contains j || bit M j i
theorem aheadB_cons {i j : Nat} {σ : List Nat} (h : aheadB M eff i (j :: σ) = true) : (eff.contains j = true → bit M j i = true) ∧ aheadB M eff i σ = true := by
  simp only [aheadB, List.all_cons, Bool.and_eq_true, Bool.or_eq_true, Bool.not_eq_true'] at h
  exact ⟨fun he => h.1.resolve_left (by rw [he]; simp), h.2⟩
/-- What was read ahead, and must still read so. -/
def Trk (M eff : List Nat) (σ : List Nat) (pd : List (Nat × Oper × Value)) (i : Nat) (o : Oper) (v : Value) : Prop := aheadB M eff i σ = true ∨ (i, o, v) ∈ pd
/-- Why an operation that is taken ahead yields v when it comes up. -/
def Evd (P : Program) (E : Env) (l : List Oper) (M eff rdx : List Nat) (σ : List Nat) (pd : List (Nat × Oper × Value)) (L : Tm) (s : List HP) (i : Nat) (o : Oper) (v : Value) : Prop :=
  (Want L l o true ∧ Op.isDefer o.op = false ∧ (if rdx.contains i then Lt P E L s o v ∧ Trk M eff σ pd i o v else Cm P L o v)) ∨ (Want L l o false ∧ v = undef)
variable {σi : List Nat} {pd : List (Nat × Oper × Value)}
theorem Evd.mono {i : Nat} {o : Oper} {v : Value} {L' : Tm} (h : Evd P E l M eff rdx σi pd L s i o v) (hl : ∀ t ∈ temps o ++ guardAt l o, look L t = look L' t) : Evd P E l M eff rdx σi pd L' s i o v := by
  rcases h with ⟨h1, h2, h3⟩ | ⟨h1, h2⟩
  · refine .inl ⟨h1.mono fun t ht => hl t (by simp [ht]), h2, ?_⟩
    split at h3 <;> rename_i hc <;> simp only [hc, if_true]
    · exact ⟨Lt.mono h3.1 fun t ht => hl t (by simp [ht]), h3.2⟩
    · exact Cm.mono h3 fun t ht => hl t (by simp [ht])
  · exact .inr ⟨h1.mono fun t ht => hl t (by simp [ht]), h2⟩
theorem Evd.trk {i : Nat} {o : Oper} {v : Value} {σ' : List Nat} {pd' : List (Nat × Oper × Value)} (h : Evd P E l M eff rdx σi pd L s i o v) (ht : Trk M eff σi pd i o v → Trk M eff σ' pd' i o v) : Evd P E l M eff rdx σ' pd' L s i o v := by
  rcases h with ⟨h1, h2, h3⟩ | h
  · refine .inl ⟨h1, h2, ?_⟩
    split at h3 <;> rename_i hc <;> simp only [hc, if_true]
    · exact ⟨h3.1, ht h3.2⟩
    · exact h3
  · exact .inr h
theorem Cm.sub {o : Oper} {v : Value} {L' : Tm} (h : Cm P L o v) (hl : Sub L L') : Cm P L' o v := fun e' he =>
  h e' fun x hx u hu => he x hx u (by
    cases x with
    | tmp t => exact hl.h t u hu
    | _ => exact hu)
theorem Lt.sub {o : Oper} {v : Value} {L' : Tm} (h : Lt P E L s o v) (hl : Sub L L') : Lt P E L' s o v := fun e' he =>
  h e' fun x hx u hu => he x hx u (by
    cases x with
    | tmp t => exact hl.h t u hu
    | _ => exact hu)
theorem Want.sub {o : Oper} {y : Bool} {L' : Tm} (h : Want L l o y) (hl : Sub L L') : Want L' l o y := by
  unfold Want at h ⊢
  cases hg : o.guard with
  | none => rw [hg] at h; exact h
  | some p =>
    obtain ⟨j, w⟩ := p
    rw [hg] at h
    obtain ⟨d, h1, h2⟩ := h
    refine ⟨d, h1, ?_⟩
    rcases h2 with ⟨q, h2, h3⟩ | ⟨h2, h3⟩
    · exact .inl ⟨q, hl.h _ _ h2, h3⟩
    · exact .inr ⟨hl.h _ _ h2, h3⟩
theorem Evd.sub {i : Nat} {o : Oper} {v : Value} {L' : Tm} (h : Evd P E l M eff rdx σi pd L s i o v) (hl : Sub L L') : Evd P E l M eff rdx σi pd L' s i o v := by
  rcases h with ⟨h1, h2, h3⟩ | ⟨h1, h2⟩
  · refine .inl ⟨h1.sub hl, h2, ?_⟩
    split at h3 <;> rename_i hc <;> simp only [hc, if_true]
    · exact ⟨Lt.sub h3.1 hl, h3.2⟩
    · exact Cm.sub h3 hl
  · exact .inr ⟨h1.sub hl, h2⟩
theorem Sub.setd {L' : Tm} {d : Option Nat} {v : Value} (h : Sub L L') : Sub (setd d v L) (setd d v L') := by
  cases d with
  | none => exact h
  | some d => exact h.cons

structure Dy (P : Program) (E : Env) (nt : Nat) (l : List Oper) (M eff rdx : List Nat) (σ : List Nat) (pd : List (Nat × Oper × Value)) (done : Nat) (L : Tm) (s : List HP) (fuel : Nat) (listed : Array Bool) (tmps : Array Value) : Prop where
  sz : listed.size = l.length
  tsz : tmps.size = nt
  fuel : left listed ≤ fuel
  down : ∀ j o, l[j]? = some o → listed.getD j true = true → ∀ e ∈ o.after, Region.binds .any e = true → listed.getD e.on true = true
  und : ∀ i < l.length, done.testBit i = false → listed.getD i true = false
  agree : ∀ t v, look L t = some v → tmps[t]? = some v ∨ ∃ i o, l[i]? = some o ∧ done.testBit i = true ∧ listed.getD i true = false ∧ eff.contains i = false ∧ o.dst = some t
  dcl : ∀ i, i < l.length → done.testBit i = true → ∀ x, bit M i x = true → done.testBit x = true
  virt : ∀ i o, l[i]? = some o → done.testBit i = true → listed.getD i true = false → eff.contains i = false ∧ ∃ v, Evd P E l M eff rdx σ pd L s i o v ∧ ∀ d, o.dst = some d → look L d = some v ∧ d < nt

theorem Dy.closed (hp : Plan l M eff rdx) {nt done fuel : Nat} {listed : Array Bool} {tmps : Array Value} (h : Dy P E nt l M eff rdx σi pd done L s fuel listed tmps) :
    ∀ n j, j ≤ n → listed.getD j true = true → ∀ i, bit M j i = true → j < l.length → listed.getD i true = true := by
  intro n
  induction n with
  | zero =>
    intro j hj hl i hi hjl
    obtain ⟨e, e1, e2, e3⟩ := hp.mask j l[j] i (by simp [hjl]) hi
    have := (hp.edge j l[j] (by simp [hjl]) e e1 e2).1
    omega
  | succ n ih =>
    intro j hj hl i hi hjl
    have ho : l[j]? = some l[j] := by simp [hjl]
    obtain ⟨e, e1, e2, e3⟩ := hp.mask j l[j] i ho hi
    have hlt := (hp.edge j l[j] ho e e1 e2).1
    have hle := h.down j l[j] ho hl e e1 e2
    rcases e3 with rfl | e3
    · exact hle
    · exact ih e.on (by omega) hle i e3 (by omega)
theorem Dy.ready (hp : Plan l M eff rdx) {nt done fuel : Nat} {listed : Array Bool} {tmps : Array Value} (h : Dy P E nt l M eff rdx σi pd done L s fuel listed tmps) {i : Nat} (hi : i ∈ Region.ready .any l.toArray listed) :
    ∃ o, l[i]? = some o ∧ listed.getD i true = false ∧ (∀ e ∈ o.after, Region.binds .any e = true → listed.getD e.on true = true) ∧ ∀ x, bit M i x = true → listed.getD x true = true := by
  obtain ⟨h1, o, h2, h3⟩ := mem_ready.1 hi
  have h2 : l[i]? = some o := by simpa using h2
  have hil : i < l.length := by
    rcases Nat.lt_or_ge i l.length with x | x
    · exact x
    · simp [List.getElem?_eq_none x] at h2
  have h3' : ∀ e ∈ o.after, Region.binds .any e = true → listed.getD e.on true = true := fun e e1 e2 => by
    have := h3 e e1 e2
    rw [getD_tf (by rw [h.sz]; have := (hp.edge i o h2 e e1 e2).1; omega)]; exact this
  refine ⟨o, h2, h1, h3', fun x hx => ?_⟩
  obtain ⟨e, e1, e2, e3⟩ := hp.mask i o x h2 hx
  rcases e3 with rfl | e3
  · exact h3' e e1 e2
  · exact h.closed hp _ e.on (Nat.le_refl _) (h3' e e1 e2) x e3 (by have := (hp.edge i o h2 e e1 e2).1; omega)
theorem Dy.some_ready (hp : Plan l M eff rdx) {nt done fuel : Nat} {listed : Array Bool} {tmps : Array Value} (h : Dy P E nt l M eff rdx σi pd done L s fuel listed tmps) {i : Nat} (hi : listed.getD i true = false) : Region.ready .any l.toArray listed ≠ [] := by
  obtain ⟨j, h1, h2, h3⟩ := min_false i i (Nat.le_refl _) hi
  have hjl : j < l.length := by
    rcases Nat.lt_or_ge j l.length with x | x
    · exact x
    · simp [Array.getElem?_eq_none (by rw [h.sz]; exact x : listed.size ≤ j)] at h2
  have hmem : j ∈ Region.ready .any l.toArray listed := mem_ready.2 ⟨h2, l[j], by simp [hjl], fun e e1 e2 => by
    have hlt := (hp.edge j l[j] (by simp [hjl]) e (by simpa using e1) e2).1
    rw [← getD_tf (by rw [h.sz]; omega)]; exact h3 _ hlt⟩
  intro he; rw [he] at hmem; cases hmem
theorem Dy.reads (hp : Plan l M eff rdx) {nt done fuel : Nat} {listed : Array Bool} {tmps : Array Value} (h : Dy P E nt l M eff rdx σi pd done L s fuel listed tmps) {i : Nat} {o : Oper} (ho : l[i]? = some o) (hr : ∀ x, bit M i x = true → listed.getD x true = true) (hl : eff.contains i = false ∨ done.testBit i = false) :
    ∀ t ∈ temps o ++ guardAt l o, ∀ v, look L t = some v → tmps[t]? = some v := by
  intro t ht v hv
  rcases h.agree t v hv with x | ⟨j, oj, h1, h2, h3, h4, h5⟩
  · exact x
  · exfalso
    by_cases e : j = i
    · subst e
      rw [ho] at h1; cases h1
      rcases hl with hl | hl
      · exact hp.own j o ho hl t h5 ht
      · rw [h2] at hl; cases hl
    · rcases hp.reads j i oj o t e h1 ho h5 ht with ⟨_, x⟩ | ⟨_, _, x⟩
      · rw [hr j x] at h3; cases h3
      · rw [h4] at x; cases x
theorem look_setd {d : Option Nat} {v : Value} {t : Nat} (h : d ≠ some t) : look (setd d v L) t = look L t := by
  cases d with
  | none => rfl
  | some d =>
    have : d ≠ t := fun e => h (by rw [e])
    simp [setd, look_cons, this]
theorem getD_set {listed : Array Bool} {i j : Nat} (hi : i < listed.size) : (listed.setIfInBounds i true).getD j true = if i = j then true else listed.getD j true := by
  by_cases e : i = j
  · subst e; simp [hi]
  · simp [Array.getElem?_setIfInBounds_ne e, e]
theorem putd_look {d : Option Nat} {v : Value} {tmps : Array Value} {t : Nat} (h : d ≠ some t) : (putd d v tmps)[t]? = tmps[t]? := by
  cases d with
  | none => rfl
  | some d => 
    have : d ≠ t := fun e => h (by rw [e])
    simp [putd, Array.getElem?_setIfInBounds_ne this]
theorem putd_size {d : Option Nat} {v : Value} {tmps : Array Value} : (putd d v tmps).size = tmps.size := by cases d <;> simp [putd]
theorem Dy.took (hp : Plan l M eff rdx) {nt done fuel : Nat} {listed : Array Bool} {tmps : Array Value} (h : Dy P E nt l M eff rdx σi pd done L s (fuel + 1) listed tmps) {i : Nat} {o : Oper} {v : Value} (ho : l[i]? = some o) (hf : listed.getD i true = false) (hd : done.testBit i = true)
    (hed : ∀ e ∈ o.after, Region.binds .any e = true → listed.getD e.on true = true) (hv : ∀ d, o.dst = some d → look L d = some v ∧ d < nt) :
    Dy P E nt l M eff rdx σi pd done L s fuel (listed.setIfInBounds i true) (putd o.dst v tmps) := by
  have hil : i < listed.size := by
    rw [h.sz]
    rcases Nat.lt_or_ge i l.length with x | x
    · exact x
    · simp [List.getElem?_eq_none x] at ho
  refine ⟨by simp [h.sz], by rw [putd_size]; exact h.tsz, ?_, ?_, ?_, ?_, h.dcl, ?_⟩
  · have := left_set hf; have := h.fuel; omega
  · intro j oj hj hl e e1 e2
    rw [getD_set hil] at hl ⊢
    by_cases x : i = e.on
    · simp [x]
    · simp only [x, if_false]
      by_cases y : i = j
      · subst y; rw [ho] at hj; cases hj; exact hed e e1 e2
      · simp only [y, if_false] at hl; exact h.down j oj hj hl e e1 e2
  · intro j hj hd'
    rw [getD_set hil]
    have : i ≠ j := by intro x; subst x; rw [hd] at hd'; cases hd'
    simp only [this, if_false]; exact h.und j hj hd'
  · intro t u hu
    by_cases x : o.dst = some t
    · left
      obtain ⟨h1, h2⟩ := hv t x
      rw [h1] at hu; cases hu
      rw [x]; simp [putd, h.tsz, h2]
    · rcases h.agree t u hu with y | ⟨j, oj, h1, h2, h3, h4, h5⟩
      · left; rw [putd_look x]; exact y
      · right
        refine ⟨j, oj, h1, h2, ?_, h4, h5⟩
        rw [getD_set hil]
        have : i ≠ j := by intro z; subst z; rw [ho] at h1; cases h1; exact x h5
        simp only [this, if_false]; exact h3
  · intro j oj hj hdj hlj
    rw [getD_set hil] at hlj
    by_cases y : i = j
    · simp [y] at hlj
    · simp only [y, if_false] at hlj; exact h.virt j oj hj hdj hlj

/-- What is left of a region that draws its order: σ, in an order of one's own. -/
def DA (P : Program) (E : Env) (X : Xs) (b : Fx) (Post : Value → List HP → Prop) (l : List Oper) (M eff rdx : List Nat) (σ : List (Nat × Oper)) (pd : List (Nat × Oper × Value)) (k : List Item) (L : Tm) (s : List HP) : Prop :=
  Plan l M eff rdx → (∀ p ∈ σ, l[p.1]? = some p.2) → ∀ done, sufB M eff rdx l.length done (σ.map Prod.fst) = true →
  ∀ (K : Goroutine → Hp → Hp → Prop) (cs : List Frame) (F : List HP),
    (∀ fr v s' t r f, Leaves P E b fr v s' → (∀ r f, sep s' r f → sep t r f) → Post v t → sep (s' ++ F) r f → Safe P E X K (G fr cs) r f) →
    ∀ Lf, Sub L Lf → ∀ fuel t listed tmps r f, Dy P E b.n l M eff rdx (σ.map Prod.fst) pd done Lf s fuel listed tmps → sep (s ++ F) r f →
      Safe P E X K (G (b.at tmps (.inRegion l.toArray (Region.linearise.go .any l.toArray fuel t listed []) :: k)) cs) r f

/-- What was taken ahead comes up. -/
theorem virt_step (hp : Plan l M eff rdx) {done fuel t' : Nat} {listed : Array Bool} {tmps : Array Value} {K : Goroutine → Hp → Hp → Prop} {cs : List Frame} {F : List HP} {r f : Hp} (h : Dy P E b.n l M eff rdx σi pd done L s (fuel + 1) listed tmps) {i : Nat} (hi : i ∈ Region.ready .any l.toArray listed) (hd : done.testBit i = true) (hs : sep (s ++ F) r f)
    (g : ∀ tmps r f, Dy P E b.n l M eff rdx σi pd done L s fuel (listed.setIfInBounds i true) tmps → sep (s ++ F) r f → Safe P E X K (G (b.at tmps (.inRegion l.toArray (Region.linearise.go .any l.toArray fuel t' (listed.setIfInBounds i true) []) :: k)) cs) r f) :
    Safe P E X K (G (b.at tmps (.inRegion l.toArray (i :: Region.linearise.go .any l.toArray fuel t' (listed.setIfInBounds i true) []) :: k)) cs) r f := by
  obtain ⟨o, ho, hf, hed, hcl⟩ := h.ready hp hi
  obtain ⟨hne, v, hev, hv⟩ := h.virt i o ho hd hf
  have hrd := h.reads hp ho hcl (.inl hne)
  have ho' : l.toArray[i]? = some o := by simpa using ho
  have hD := h.took hp ho hf hd hed hv
  rcases hev with ⟨h1, h2, h3⟩ | ⟨h1, h2⟩
  · have hlt : Lt P E L s o v := by
      split at h3
      · exact h3.1
      · exact h3.lt
    refine hlt.ex (X := X) (b := b) (.inr h2) K cs F l i _ k tmps r f ho' (want_is (fun t ht u hu => hrd t (by simp [ht]) u hu) h1) (fun t ht u hu => hrd t (by simp [mem_temps.2 ht]) u hu) hs ?_
    rintro u s' r' f' ⟨rfl, rfl⟩ hs'
    exact g _ _ _ hD hs'
  · refine .idle rfl (fun w => step_unwanted ho' (want_is (fun t ht u hu => hrd t (by simp [ht]) u hu) h1)) ?_
    rw [finish_at ho', ← h2]
    exact g _ _ _ hD hs

theorem testBit_add {done j i : Nat} : (done ||| 2 ^ j).testBit i = (done.testBit i || decide (j = i)) := by
  rw [Nat.testBit_or, Nat.testBit_two_pow]
theorem sufB_cons {n done j : Nat} {σ : List Nat} (h : sufB M eff rdx n done (j :: σ) = true) :
    (∀ i, bit M j i = true → done.testBit i = true) ∧ done.testBit j = false ∧ j < n ∧ (eff.contains j = true → ∀ m ∈ σ, bit M m j = true) ∧ sufB M eff rdx n (done ||| 2 ^ j) σ = true := by
  simp only [sufB, Bool.and_eq_true] at h
  obtain ⟨⟨⟨⟨h1, h2⟩, h3⟩, h4⟩, h5⟩ := h
  refine ⟨fun i hi => ?_, by simpa using h2, blt_lt h3, fun he => ?_, h5⟩
  · have := Nat.eq_of_beq_eq_true h1
    unfold bit at hi
    rw [← this, Nat.testBit_and, Bool.and_eq_true] at hi
    exact hi.2
  · simp only [he, Bool.not_true, Bool.false_or, List.all_eq_true] at h4
    exact h4

theorem W.draw {i : Nat} {σ : List Nat} {σo : List (Nat × Oper)} (hm : P.follows .mixedOrders = true) (hp : planB l M eff rdx σ = true) (ho : pickOps l σ = some σo) (g : DA P E X b Post l M eff rdx σo [] k L s) : W P E X b Post (.code (.region i l.toArray true) :: k) L s := by
  intro K cs F hr tmps r f hok hs
  obtain ⟨hplan, hsuf⟩ := Plan.of hp
  have key : ∀ {σ : List Nat} {σo : List (Nat × Oper)}, pickOps l σ = some σo → (∀ p ∈ σo, l[p.1]? = some p.2) ∧ σo.map Prod.fst = σ := by
    intro σ
    induction σ with
    | nil => intro σo e; cases e; exact ⟨fun p hp => (by cases hp), rfl⟩
    | cons j σ ih =>
      intro σo e
      unfold pickOps at e
      split at e
      · rename_i o r e1 e2
        cases e
        obtain ⟨k1, k2⟩ := ih e2
        refine ⟨fun p hp => ?_, by simp [k2]⟩
        rcases List.mem_cons.1 hp with rfl | hp
        · exact e1
        · exact k1 p hp
      · cases e
  obtain ⟨k1, k2⟩ := key ho
  refine .next rfl fun w hsat => ?_
  refine ⟨G (b.at tmps (.inRegion l.toArray (Region.schedule (P.follows .mixedOrders) l.toArray (w.tape w.drawn (.order b.fn i))) :: k)) cs, { w with drawn := w.drawn + 1 }, #[], r, f, ?_, ?_, ?_⟩
  · simp [Go.Conc.G, stepG, stepG.exec, Fx.at, choose, Sem.run, Question.forced, Question.cut]
  · exact ⟨⟨hsat.os, hsat.out, hsat.tape, hsat.ro, hsat.own, hsat.apart⟩, Hp.le_refl _, Nat.le_refl _, fun _ _ _ => rfl, fun _ x y => absurd y x, fun _ x y => absurd y x, fun e he => by simp at he⟩
  · unfold Region.schedule
    rw [hm]
    simp only [Bool.true_or, if_true, Region.linearise]
    refine g hplan k1 0 (by rw [k2]; exact hsuf) K cs F hr L Sub.refl _ _ _ tmps r f ?_ hs
    refine ⟨by simp, hok.size, ?_, ?_, ?_, fun t v e => .inl (hok.h t v e), fun i hi hd => by simp at hd, ?_⟩
    · unfold left; exact Nat.le_trans List.countP_le_length (by simp)
    · intro j o hj hl
      have hjl : j < l.length := by
        rcases Nat.lt_or_ge j l.length with x | x
        · exact x
        · simp [List.getElem?_eq_none x] at hj
      simp [hjl] at hl
    · intro j hj _; simp [hj]
    · intro j o _ hd; simp at hd

theorem idx_lt {i : Nat} {o : Oper} (h : l[i]? = some o) : i < l.length := by
  rcases Nat.lt_or_ge i l.length with x | x
  · exact x
  · simp [List.getElem?_eq_none x] at h
/-- An operation that only computes, taken ahead. -/
theorem DA.ahead {j : Nat} {o : Oper} {σ : List (Nat × Oper)} {v : Value} (he : eff.contains j = false) (hd : ltd o.dst b.n = true) {pd pd' : List (Nat × Oper × Value)} (hev : Evd P E l M eff rdx (σ.map Prod.fst) pd' L s j o v) (hpd : ∀ p ∈ pd, p ∈ pd') (g : DA P E X b Post l M eff rdx σ pd' k (setd o.dst v L) s) : DA P E X b Post l M eff rdx ((j, o) :: σ) pd k L s := by
  intro hp hl done hsuf K cs F hr Lf hLf fuel t listed tmps r f hD hs
  have hev := hev.sub hLf
  obtain ⟨s1, s2, s3, s4, s5⟩ := sufB_cons hsuf
  have ho : l[j]? = some o := hl (j, o) (List.mem_cons_self ..)
  have hfj := hD.und j s3 s2
  have stable : ∀ i oi, l[i]? = some oi → (done.testBit i = true ∨ i = j) → ∀ t ∈ temps oi ++ guardAt l oi, look Lf t = look (setd o.dst v Lf) t := by
    intro i oi hi hdi t ht
    by_cases x : o.dst = some t
    · exfalso
      by_cases hji : j = i
      · subst hji; rw [ho] at hi; cases hi
        exact hp.own j o ho he t x ht
      · have hdi := hdi.resolve_right (fun y => hji y.symm)
        rcases hp.reads j i o oi t hji ho hi x ht with ⟨_, y⟩ | ⟨_, _, y⟩
        · have := hD.dcl i (idx_lt hi) hdi j y
          rw [s2] at this; cases this
        · rw [he] at y; cases y
    · rw [look_setd x]
  refine g hp (fun p h => hl p (List.mem_cons_of_mem _ h)) _ s5 K cs F hr (setd o.dst v Lf) hLf.setd fuel t listed tmps r f ?_ hs
  refine ⟨hD.sz, hD.tsz, hD.fuel, hD.down, ?_, ?_, ?_, ?_⟩
  · intro i hi hdi
    rw [testBit_add, Bool.or_eq_false_iff] at hdi
    exact hD.und i hi hdi.1
  · intro u w hw
    by_cases x : o.dst = some u
    · exact .inr ⟨j, o, ho, by rw [testBit_add]; simp, hfj, he, x⟩
    · rw [look_setd x] at hw
      rcases hD.agree u w hw with y | ⟨i, oi, h1, h2, h3, h4, h5⟩
      · exact .inl y
      · exact .inr ⟨i, oi, h1, by rw [testBit_add, h2]; rfl, h3, h4, h5⟩
  · intro i hi hdi x hx
    rw [testBit_add] at hdi ⊢
    by_cases y : j = i
    · subst y; rw [s1 x hx]; rfl
    · simp only [y, decide_false, Bool.or_false] at hdi
      rw [hD.dcl i hi hdi x hx]; rfl
  · intro i oi hi hdi hli
    rw [testBit_add] at hdi
    by_cases y : j = i
    · subst y; rw [ho] at hi; cases hi
      refine ⟨he, v, hev.mono (stable j o ho (.inr rfl)), fun d hdd => ⟨?_, ltd_lt' hd d hdd⟩⟩
      rw [hdd]; simp [setd, look_cons]
    · simp only [y, decide_false, Bool.or_false] at hdi
      obtain ⟨k1, u, k2, k3⟩ := hD.virt i oi hi hdi hli
      refine ⟨k1, u, (k2.trk fun ht => ht.imp (fun h => (aheadB_cons h).2) (fun h => hpd _ h)).mono (stable i oi hi (.inl hdi)), fun d hdd => ?_⟩
      obtain ⟨k4, k5⟩ := k3 d hdd
      refine ⟨?_, k5⟩
      rw [look_setd]; exact k4
      intro x; exact hp.one j i o oi d y ho hi he x hdd
theorem sufB_cover {n : Nat} : ∀ {σ : List Nat} {done : Nat}, sufB M eff rdx n done σ = true → ∀ i < n, done.testBit i = true ∨ i ∈ σ
  | [], done, h, i, hi => by
    have := Nat.eq_of_beq_eq_true h
    subst this
    left; simp [Nat.testBit_two_pow_sub_one, hi]
  | j :: σ, done, h, i, hi => by
    obtain ⟨_, _, _, _, s5⟩ := sufB_cons h
    rcases sufB_cover s5 i hi with x | x
    · rw [testBit_add, Bool.or_eq_true] at x
      rcases x with x | x
      · exact .inl x
      · right; simp at x; simp [x]
    · right; simp [x]
theorem DA.act {j : Nat} {o : Oper} {σ : List (Nat × Oper)} {pd : List (Nat × Oper × Value)} {Q : Value → List HP → Prop} (he : eff.contains j = true) (hd : ltd o.dst b.n = true)
    (hx : ∀ (K : Goroutine → Hp → Hp → Prop) (cs : List Frame) (F : List HP) (i : Nat) (is : List Nat) (tmps : Array Value) (r f : Hp), l.toArray[i]? = some o → (∀ t ∈ temps o ++ guardAt l o, ∀ v, look L t = some v → tmps[t]? = some v) → sep (s ++ F) r f →
      (∀ v s' r' f', Q v s' → sep (s' ++ F) r' f' → Safe P E X K (G (b.at (putd o.dst v tmps) (.inRegion l.toArray is :: k)) cs) r' f') → Safe P E X K (G (b.at tmps (.inRegion l.toArray (i :: is) :: k)) cs) r f)
    (hst : ∀ v s', Q v s' → ∀ p ∈ pd, bit M j p.1 = true ∨ Lt P E (setd o.dst v L) s' p.2.1 p.2.2)
    (g : ∀ v s', Q v s' → DA P E X b Post l M eff rdx σ pd k (setd o.dst v L) s') : DA P E X b Post l M eff rdx ((j, o) :: σ) pd k L s := by
  intro hp hl done hsuf K cs F hr Lf hLf fuel
  obtain ⟨s1, s2, s3, s4, s5⟩ := sufB_cons hsuf
  have ho : l[j]? = some o := hl (j, o) (List.mem_cons_self ..)
  induction fuel with
  | zero =>
    intro t listed tmps r f hD hs
    have := left_zero (Nat.le_zero.1 hD.fuel) (i := j)
    rw [hD.und j s3 s2] at this; cases this
  | succ fuel ih =>
    intro t listed tmps r f hD hs
    rcases lin_succ (ops := l.toArray) (fuel := fuel) (t := t) (listed := listed) with ⟨i, hi, t', e⟩ | ⟨e, _⟩
    · rw [e]
      obtain ⟨oi, hoi, hfi, hed, hcl⟩ := hD.ready hp hi
      have hil := idx_lt hoi
      cases hdi : done.testBit i with
      | true => exact virt_step hp hD hi hdi hs fun tmps r f hD hs => ih t' _ tmps r f hD hs
      | false =>
        have hij : i = j := by
          rcases sufB_cover hsuf i hil with x | x
          · rw [hdi] at x; cases x
          · rcases List.mem_cons.1 x with x | x
            · exact x
            · exfalso
              have := hcl j (s4 he i x)
              rw [hD.und j s3 s2] at this; cases this
        subst hij
        rw [ho] at hoi; cases hoi
        refine hx K cs F i _ tmps r f (by simpa using ho) (fun t ht v hv => hD.reads hp ho hcl (.inr s2) t ht v (hLf.h t v hv)) hs fun v s' r' f' q hs' => ?_
        refine g v s' q hp (fun p h => hl p (List.mem_cons_of_mem _ h)) _ s5 K cs F hr (setd o.dst v Lf) hLf.setd fuel t' _ _ r' f' ?_ hs'
        have hisz : i < listed.size := by rw [hD.sz]; exact hil
        have gone : ∀ x, bit M i x = true → listed.getD x true = true := hcl
        refine ⟨by simp [hD.sz], by rw [putd_size]; exact hD.tsz, ?_, ?_, ?_, ?_, ?_, ?_⟩
        · have := left_set hfi; have := hD.fuel; omega
        · intro m om hm hlm e e1 e2
          rw [getD_set hisz] at hlm ⊢
          by_cases x : i = e.on
          · simp [x]
          · simp only [x, if_false]
            by_cases y : i = m
            · subst y; rw [ho] at hm; cases hm; exact hed e e1 e2
            · simp only [y, if_false] at hlm; exact hD.down m om hm hlm e e1 e2
        · intro m hm hdm
          rw [testBit_add, Bool.or_eq_false_iff] at hdm
          rw [getD_set hisz]
          have : i ≠ m := by simpa using hdm.2
          simp only [this, if_false]; exact hD.und m hm hdm.1
        · intro u w hw
          by_cases x : o.dst = some u
          · left
            rw [x] at hw ⊢
            simp only [setd, look_cons, if_true] at hw; cases hw
            simp [putd, hD.tsz, ltd_lt' hd u x]
          · rw [look_setd x] at hw
            rcases hD.agree u w hw with y | ⟨m, om, h1, h2, h3, h4, h5⟩
            · left; rw [putd_look x]; exact y
            · right
              refine ⟨m, om, h1, by rw [testBit_add, h2]; rfl, ?_, h4, h5⟩
              rw [getD_set hisz]
              have : i ≠ m := by intro y; subst y; rw [h2] at hdi; cases hdi
              simp only [this, if_false]; exact h3
        · intro m hm hdm x hxx
          rw [testBit_add] at hdm ⊢
          by_cases y : i = m
          · subst y; rw [s1 x hxx]; rfl
          · simp only [y, decide_false, Bool.or_false] at hdm
            rw [hD.dcl m hm hdm x hxx]; rfl
        · intro m om hm hdm hlm
          rw [testBit_add] at hdm
          rw [getD_set hisz] at hlm
          by_cases y : i = m
          · simp [y] at hlm
          · simp only [y, decide_false, Bool.or_false] at hdm
            simp only [y, if_false] at hlm
            obtain ⟨k1, u, k2, k3⟩ := hD.virt m om hm hdm hlm
            have hnb : bit M i m ≠ true := fun z => by rw [gone m z] at hlm; cases hlm
            have hstab : ∀ t ∈ temps om ++ guardAt l om, look Lf t = look (setd o.dst v Lf) t := fun t ht => by
              rw [look_setd]
              intro z
              rcases hp.reads i m o om t y ho hm z ht with ⟨_, w⟩ | ⟨_, w, _⟩
              · have := hD.dcl m (idx_lt hm) hdm i w
                rw [s2] at this; cases this
              · exact hnb w
            refine ⟨k1, u, ?_, fun d hdd => ?_⟩
            · rcases k2 with ⟨z1, z2, z3⟩ | ⟨z1, z2⟩
              · refine .inl ⟨z1.mono fun t ht => hstab t (by simp [ht]), z2, ?_⟩
                split at z3 <;> rename_i hc <;> simp only [hc, if_true]
                · obtain ⟨_, z4⟩ := z3
                  rcases z4 with z4 | z4
                  · exact absurd ((aheadB_cons z4).1 he) hnb
                  · exact ⟨((hst v s' q _ z4).resolve_left hnb).sub hLf.setd, .inr z4⟩
                · exact Cm.mono z3 fun t ht => hstab t (by simp [ht])
              · exact .inr ⟨z1.mono fun t ht => hstab t (by simp [ht]), z2⟩
            · obtain ⟨k4, k5⟩ := k3 d hdd
              refine ⟨?_, k5⟩
              rw [look_setd]; exact k4
              intro z; exact hp.one m i om o d (fun w => y w.symm) hm ho k1 hdd z
    · exact absurd e (hD.some_ready hp (hD.und j s3 s2))
theorem DA.done {pd : List (Nat × Oper × Value)} (g : W P E X b Post k L s) : DA P E X b Post l M eff rdx [] pd k L s := by
  intro hp hl done hsuf K cs F hr Lf hLf fuel
  have hcov := sufB_cover hsuf
  have fin : ∀ (listed : Array Bool) (tmps : Array Value) (n : Nat), Dy P E b.n l M eff rdx [] pd done Lf s n listed tmps → (∀ i, listed.getD i true = true) → L.ok b.n tmps := fun listed tmps n hD ha =>
    ⟨hD.tsz, fun t v e => (hD.agree t v (hLf.h t v e)).resolve_right fun ⟨i, o, h1, h2, h3, _⟩ => by rw [ha i] at h3; cases h3⟩
  induction fuel with
  | zero =>
    intro t listed tmps r f hD hs
    have ha : ∀ i, listed.getD i true = true := fun i => left_zero (Nat.le_zero.1 hD.fuel)
    exact W.endRegion g K cs F hr tmps r f (fin _ _ _ hD ha) hs
  | succ fuel ih =>
    intro t listed tmps r f hD hs
    rcases lin_succ (ops := l.toArray) (fuel := fuel) (t := t) (listed := listed) with ⟨i, hi, t', e⟩ | ⟨e, e'⟩
    · rw [e]
      obtain ⟨oi, hoi, hfi, hed, hcl⟩ := hD.ready hp hi
      have hdi : done.testBit i = true := by
        rcases hcov i (idx_lt hoi) with x | x
        · exact x
        · cases x
      exact virt_step hp hD hi hdi hs fun tmps r f hD hs => ih t' _ tmps r f hD hs
    · rw [e']
      have ha : ∀ i, listed.getD i true = true := fun i => by
        cases hh : listed.getD i true with
        | true => rfl
        | false => exact absurd e (hD.some_ready hp hh)
      exact W.endRegion g K cs F hr tmps r f (fin _ _ _ hD ha) hs

section
variable {j d : Nat} {pd : List (Nat × Oper × Value)} {op : Op} {ty : TypeId} {pos : String} {af : Array Edge} {gd : Option (Nat × Bool)} {σ : List (Nat × Oper)}
theorem DA.cm {v : Value} (hw : Want L l ⟨some d, op, ty, pos, af, gd⟩ true) (hnd : Op.isDefer op = false) (hd : Nat.blt d b.n = true) (he : eff.contains j = false) (hr : rdx.contains j = false) (h : Cm P L ⟨some d, op, ty, pos, af, gd⟩ v) (g : DA P E X b Post l M eff rdx σ pd k ((d, v) :: L) s) : DA P E X b Post l M eff rdx ((j, ⟨some d, op, ty, pos, af, gd⟩) :: σ) pd k L s :=
  DA.ahead (o := ⟨some d, op, ty, pos, af, gd⟩) (v := v) he hd (.inl ⟨hw, hnd, by rw [hr]; exact h⟩) (fun _ h => h) g
theorem if_cmr {o : Oper} {v : Value} {σ : List Nat} (h : Cm P L o v) (ha : aheadB M eff j σ = true) : if rdx.contains j then Lt P E L s o v ∧ Trk M eff σ pd j o v else Cm P L o v := by
  split
  · exact ⟨h.lt, .inl ha⟩
  · exact h
theorem DA.cmr {v : Value} (hw : Want L l ⟨some d, op, ty, pos, af, gd⟩ true) (hnd : Op.isDefer op = false) (hd : Nat.blt d b.n = true) (he : eff.contains j = false) (ha : aheadB M eff j (σ.map Prod.fst) = true) (h : Cm P L ⟨some d, op, ty, pos, af, gd⟩ v) (g : DA P E X b Post l M eff rdx σ pd k ((d, v) :: L) s) : DA P E X b Post l M eff rdx ((j, ⟨some d, op, ty, pos, af, gd⟩) :: σ) pd k L s :=
  DA.ahead (o := ⟨some d, op, ty, pos, af, gd⟩) (v := v) he hd (.inl ⟨hw, hnd, if_cmr h ha⟩) (fun _ h => h) g
theorem DA.lt {v : Value} (hw : Want L l ⟨some d, op, ty, pos, af, gd⟩ true) (hnd : Op.isDefer op = false) (hd : Nat.blt d b.n = true) (he : eff.contains j = false) (hr : rdx.contains j = true) (ha : aheadB M eff j (σ.map Prod.fst) = true) (h : Lt P E L s ⟨some d, op, ty, pos, af, gd⟩ v) (g : DA P E X b Post l M eff rdx σ pd k ((d, v) :: L) s) : DA P E X b Post l M eff rdx ((j, ⟨some d, op, ty, pos, af, gd⟩) :: σ) pd k L s :=
  DA.ahead (o := ⟨some d, op, ty, pos, af, gd⟩) (v := v) he hd (.inl ⟨hw, hnd, by rw [hr]; exact ⟨h, .inl ha⟩⟩) (fun _ h => h) g
theorem DA.ltP {v : Value} (hw : Want L l ⟨some d, op, ty, pos, af, gd⟩ true) (hnd : Op.isDefer op = false) (hd : Nat.blt d b.n = true) (he : eff.contains j = false) (hr : rdx.contains j = true) (h : Lt P E L s ⟨some d, op, ty, pos, af, gd⟩ v) (g : DA P E X b Post l M eff rdx σ ((j, ⟨some d, op, ty, pos, af, gd⟩, v) :: pd) k ((d, v) :: L) s) : DA P E X b Post l M eff rdx ((j, ⟨some d, op, ty, pos, af, gd⟩) :: σ) pd k L s :=
  DA.ahead (o := ⟨some d, op, ty, pos, af, gd⟩) (v := v) he hd (.inl ⟨hw, hnd, by rw [hr]; exact ⟨h, .inr (List.mem_cons_self ..)⟩⟩) (fun _ h => List.mem_cons_of_mem _ h) g
theorem DA.skip (hw : Want L l ⟨some d, op, ty, pos, af, gd⟩ false) (hd : Nat.blt d b.n = true) (he : eff.contains j = false) (g : DA P E X b Post l M eff rdx σ pd k ((d, undef) :: L) s) : DA P E X b Post l M eff rdx ((j, ⟨some d, op, ty, pos, af, gd⟩) :: σ) pd k L s :=
  DA.ahead (o := ⟨some d, op, ty, pos, af, gd⟩) (v := undef) he hd (.inr ⟨hw, rfl⟩) (fun _ h => h) g
/-- What was read ahead still reads so. -/
inductive PdOk (P : Program) (E : Env) (M : List Nat) (j : Nat) (L : Tm) (s : List HP) : List (Nat × Oper × Value) → Prop
  | nil : PdOk P E M j L s []
  | old {i : Nat} {o : Oper} {v : Value} {pd : List (Nat × Oper × Value)} (h : bit M j i = true) (g : PdOk P E M j L s pd) : PdOk P E M j L s ((i, o, v) :: pd)
  | cons {i : Nat} {o : Oper} {v : Value} {pd : List (Nat × Oper × Value)} (h : Lt P E L s o v) (g : PdOk P E M j L s pd) : PdOk P E M j L s ((i, o, v) :: pd)
theorem PdOk.h {s : List HP} (h : PdOk P E M j L s pd) : ∀ p ∈ pd, bit M j p.1 = true ∨ Lt P E L s p.2.1 p.2.2 := by
  induction h with
  | nil => intro p hp; cases hp
  | old h g ih => intro p hp; rcases List.mem_cons.1 hp with rfl | hp
                  · exact .inl h
                  · exact ih p hp
  | cons h g ih => intro p hp; rcases List.mem_cons.1 hp with rfl | hp
                   · exact .inr h
                   · exact ih p hp
theorem DA.exP {o : Oper} {Q : Value → List HP → Prop} (hw : Want L l o true) (hd : ltd o.dst b.n = true) (he : eff.contains j = true) (h : Ex P E X b L s o Q) (g : ∀ v s', Q v s' → PdOk P E M j (setd o.dst v L) s' pd ∧ DA P E X b Post l M eff rdx σ pd k (setd o.dst v L) s') : DA P E X b Post l M eff rdx ((j, o) :: σ) pd k L s :=
  DA.act he hd (fun K cs F i is tmps r f h1 h2 h3 h4 => h K cs F l i is k tmps r f h1 (want_is (fun t ht v hv => h2 t (by simp [ht]) v hv) hw) (fun t ht v hv => h2 t (by simp [mem_temps.2 ht]) v hv) h3 h4) (fun v s' q => (g v s' q).1.h) fun v s' q => (g v s' q).2
theorem DA.cmE {v : Value} (hw : Want L l ⟨some d, op, ty, pos, af, gd⟩ true) (hnd : Op.isDefer op = false) (hd : Nat.blt d b.n = true) (he : eff.contains j = true) (h : Cm P L ⟨some d, op, ty, pos, af, gd⟩ v) (hpd : PdOk P E M j ((d, v) :: L) s pd) (g : DA P E X b Post l M eff rdx σ pd k ((d, v) :: L) s) : DA P E X b Post l M eff rdx ((j, ⟨some d, op, ty, pos, af, gd⟩) :: σ) pd k L s :=
  DA.exP (o := ⟨some d, op, ty, pos, af, gd⟩) hw hd he (h.lt.ex (.inr hnd)) fun u s' ⟨e1, e2⟩ => by rw [e1, e2]; exact ⟨hpd, g⟩
theorem DA.exSkip {o : Oper} (hw : Want L l o false) (hd : ltd o.dst b.n = true) (he : eff.contains j = true) (hpd : PdOk P E M j (setd o.dst undef L) s pd) (g : DA P E X b Post l M eff rdx σ pd k (setd o.dst undef L) s) : DA P E X b Post l M eff rdx ((j, o) :: σ) pd k L s :=
  DA.act (Q := fun v s' => v = undef ∧ s' = s) he hd (fun K cs F i is tmps r f h1 h2 h3 h4 => by
    refine .idle rfl (fun w => step_unwanted h1 (want_is (fun t ht v hv => h2 t (by simp [ht]) v hv) hw)) ?_
    rw [finish_at h1]
    exact h4 _ _ _ _ ⟨rfl, rfl⟩ h3) (fun v s' ⟨e1, e2⟩ => by rw [e1, e2]; exact hpd.h) fun v s' ⟨e1, e2⟩ => by rw [e1, e2]; exact g
/-- What need not be kept any more. -/
inductive PdSub (M eff : List Nat) (σ : List Nat) (pd0 : List (Nat × Oper × Value)) : List (Nat × Oper × Value) → Prop
  | refl : PdSub M eff σ pd0 pd0
  | nil : PdSub M eff σ pd0 []
  | cons {i : Nat} {o : Oper} {v : Value} {pd : List (Nat × Oper × Value)} (h : aheadB M eff i σ = true) (g : PdSub M eff σ pd0 pd) : PdSub M eff σ pd0 ((i, o, v) :: pd)
theorem PdSub.h {σ : List Nat} {pd0 : List (Nat × Oper × Value)} (h : PdSub M eff σ pd0 pd) : ∀ p ∈ pd, aheadB M eff p.1 σ = true ∨ p ∈ pd0 := by
  induction h with
  | refl => exact fun p hp => .inr hp
  | nil => intro p hp; cases hp
  | cons h g ih => intro p hp; rcases List.mem_cons.1 hp with rfl | hp
                   · exact .inl h
                   · exact ih p hp
theorem DA.close {L' : Tm} {pd0 : List (Nat × Oper × Value)} (gk : DA P E X b Post l M eff rdx σ pd0 k L' s) (hL : Sub L' L) (hp : PdSub M eff (σ.map Prod.fst) pd0 pd) : DA P E X b Post l M eff rdx σ pd k L s :=
  fun hpl hl done hsuf K cs F hr Lf hLf fuel t listed tmps r f hD hs => gk hpl hl done hsuf K cs F hr Lf ⟨fun t v e => hLf.h t v (hL.h t v e)⟩ fuel t listed tmps r f
    ⟨hD.sz, hD.tsz, hD.fuel, hD.down, hD.und, hD.agree, hD.dcl, fun i o h1 h2 h3 => by
      obtain ⟨k1, v, k2, k3⟩ := hD.virt i o h1 h2 h3
      exact ⟨k1, v, k2.trk fun ht => ht.elim .inl fun h => hp.h _ h, k3⟩⟩ hs
theorem sel_mid {A : HP} : ∀ {s F : List HP}, Sel (s ++ A :: F) A (s ++ F)
  | [], _ => .here
  | _ :: s, _ => .there (sel_mid (s := s))
theorem Lt.cons {A : HP} {s : List HP} {o : Oper} {v : Value} (h : Lt P E L s o v) : Lt P E L (A :: s) o v := by
  intro e' he w r f F es hs hB
  obtain ⟨a, w1, es1, r1, f1, A1, e1, k1, ⟨q1, q2⟩, s1⟩ := h e' he w r f (A :: F) es hs (sel_mid.back hB)
  subst q2
  exact ⟨a, w1, es1, r1, f1, A :: A1, e1, k1, ⟨q1, rfl⟩, sel_mid.out s1⟩
theorem Evd.cons {A : HP} {s : List HP} {i : Nat} {o : Oper} {v : Value} {σi : List Nat} {pd : List (Nat × Oper × Value)} (h : Evd P E l M eff rdx σi pd L s i o v) : Evd P E l M eff rdx σi pd L (A :: s) i o v := by
  rcases h with ⟨h1, h2, h3⟩ | h
  · refine .inl ⟨h1, h2, ?_⟩
    split at h3 <;> rename_i hc <;> simp only [hc, if_true]
    · exact ⟨h3.1.cons, h3.2⟩
    · exact h3
  · exact .inr h
/-- More is known. -/
theorem DA.intoC {A : HP} {s : List HP} (hi : Into s (A :: s)) (g : DA P E X b Post l M eff rdx σ pd k L (A :: s)) : DA P E X b Post l M eff rdx σ pd k L s :=
  fun hpl hl done hsuf K cs F hr Lf hLf fuel t listed tmps r f hD hs => g hpl hl done hsuf K cs F hr Lf hLf fuel t listed tmps r f
    ⟨hD.sz, hD.tsz, hD.fuel, hD.down, hD.und, hD.agree, hD.dcl, fun i o h1 h2 h3 => by
      obtain ⟨k1, v, k2, k3⟩ := hD.virt i o h1 h2 h3
      exact ⟨k1, v, k2.cons, k3⟩⟩ (by
      obtain ⟨f1, f2, d, l1, l2, h1, h2⟩ := sep_append.1 hs
      exact sep_append.2 ⟨f1, f2, d, l1, l2, hi.h _ _ h1, h2⟩)
/-- Short ways. -/
def guardOfD (l : List Oper) : List (Nat × Oper) → Option (Nat × Bool)
  | [] => none
  | p :: _ => match p.2.guard with
    | none => none
    | some (j, w) => match dstAt l j with
      | none => none
      | some d => some (d, w)
def cutPickD (c : Nat) : List (Nat × Oper) → Option (Nat × List (Nat × Oper))
  | [] => none
  | p :: r => match p.2.dst, p.2.op with
    | some d, .pick (.tmp e) _ _ => if e = c then some (d, r) else cutPickD c r
    | _, _ => cutPickD c r
variable {σ' : List (Nat × Oper)}
theorem DA.orG {c d : Nat} {q y : Bool} (hg : guardOfD l σ = some (c, false)) (hq : look L c = some (.bool q)) (hc : cutPickD c σ = some (d, σ'))
    (hF : q = false → DA P E X b Post l M eff rdx σ' pd k ((d, .bool (q || y)) :: L) s → DA P E X b Post l M eff rdx σ pd k L s)
    (hT : q = true → DA P E X b Post l M eff rdx σ' pd k ((d, .bool (q || y)) :: L) s → DA P E X b Post l M eff rdx σ pd k L s)
    (g : DA P E X b Post l M eff rdx σ' pd k ((d, .bool (q || y)) :: L) s) : DA P E X b Post l M eff rdx σ pd k L s := by
  cases q
  · exact hF rfl g
  · exact hT rfl g
theorem DA.andG {c d : Nat} {q y : Bool} (hg : guardOfD l σ = some (c, true)) (hq : look L c = some (.bool q)) (hc : cutPickD c σ = some (d, σ'))
    (hT : q = true → DA P E X b Post l M eff rdx σ' pd k ((d, .bool (q && y)) :: L) s → DA P E X b Post l M eff rdx σ pd k L s)
    (hF : q = false → DA P E X b Post l M eff rdx σ' pd k ((d, .bool (q && y)) :: L) s → DA P E X b Post l M eff rdx σ pd k L s)
    (g : DA P E X b Post l M eff rdx σ' pd k ((d, .bool (q && y)) :: L) s) : DA P E X b Post l M eff rdx σ pd k L s := by
  cases q
  · exact hF rfl g
  · exact hT rfl g
theorem DA.orY {L' : Tm} {pd0 : List (Nat × Oper × Value)} {q y : Bool} (h : q = false) (gk : DA P E X b Post l M eff rdx σ pd0 k ((d, .bool (q || y)) :: L') s) (hL : Sub L' L) (hp : PdSub M eff (σ.map Prod.fst) pd0 pd) : DA P E X b Post l M eff rdx σ pd k ((d, .bool y) :: L) s := by
  subst h; exact DA.close gk (by rw [Bool.false_or]; exact hL.cons) hp
theorem DA.orN {L' : Tm} {pd0 : List (Nat × Oper × Value)} {q y : Bool} (h : q = true) (gk : DA P E X b Post l M eff rdx σ pd0 k ((d, .bool (q || y)) :: L') s) (hL : Sub L' L) (hp : PdSub M eff (σ.map Prod.fst) pd0 pd) : DA P E X b Post l M eff rdx σ pd k ((d, .bool true) :: L) s := by
  subst h; exact DA.close gk (by rw [Bool.true_or]; exact hL.cons) hp
theorem DA.andY {L' : Tm} {pd0 : List (Nat × Oper × Value)} {q y : Bool} (h : q = true) (gk : DA P E X b Post l M eff rdx σ pd0 k ((d, .bool (q && y)) :: L') s) (hL : Sub L' L) (hp : PdSub M eff (σ.map Prod.fst) pd0 pd) : DA P E X b Post l M eff rdx σ pd k ((d, .bool y) :: L) s := by
  subst h; exact DA.close gk (by rw [Bool.true_and]; exact hL.cons) hp
theorem DA.andN {L' : Tm} {pd0 : List (Nat × Oper × Value)} {q y : Bool} (h : q = false) (gk : DA P E X b Post l M eff rdx σ pd0 k ((d, .bool (q && y)) :: L') s) (hL : Sub L' L) (hp : PdSub M eff (σ.map Prod.fst) pd0 pd) : DA P E X b Post l M eff rdx σ pd k ((d, .bool false) :: L) s := by
  subst h; exact DA.close gk (by rw [Bool.false_and]; exact hL.cons) hp
end
end
end Go.KL
