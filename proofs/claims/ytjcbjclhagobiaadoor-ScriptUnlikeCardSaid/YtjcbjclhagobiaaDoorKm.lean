/- Own program logic, part 13: slices: what they hold, owned or never written again. -/
import Derived.Test.YtjcbjclhagobiaaDoorKl
namespace Go.KL
open Go

structure ElOk (sz : Nat) (es : List (List Value)) : Prop where
  len : ∀ e ∈ es, e.length = sz
  one : ∀ e ∈ es, ∀ v ∈ e, oneC v = true
theorem flat_len {sz : Nat} : ∀ {es : List (List Value)}, (∀ e ∈ es, e.length = sz) → es.flatten.length = es.length * sz
  | [], _ => by simp
  | e :: es, h => by
    simp only [List.flatten_cons, List.length_append, List.length_cons]
    rw [h e (by simp), flat_len (es := es) (fun x hx => h x (by simp [hx])), Nat.add_mul]; omega
theorem ElOk.flat {sz : Nat} {es : List (List Value)} (h : ElOk sz es) : es.flatten.length = es.length * sz := flat_len h.len
theorem flat_at {sz o : Nat} {e : List Value} {v : Value} (h2 : e[o]? = some v) : ∀ {es : List (List Value)} {i : Nat}, (∀ e ∈ es, e.length = sz) → es[i]? = some e → es.flatten[i * sz + o]? = some v
  | [], _, _, h1 => by simp at h1
  | a :: es, i, h, h1 => by
    have ha : a.length = sz := h a (by simp)
    rw [List.flatten_cons]
    cases i with
    | zero =>
      simp at h1; subst h1
      simp only [Nat.zero_mul, Nat.zero_add]
      rw [List.getElem?_append_left]
      · exact h2
      · rw [List.getElem?_eq_some_iff] at h2; exact h2.1
    | succ i =>
      have := flat_at h2 (es := es) (i := i) (fun x hx => h x (by simp [hx])) (by simpa using h1)
      rw [List.getElem?_append_right (by rw [Nat.add_mul]; omega), show (i + 1) * sz + o - a.length = i * sz + o by rw [ha, Nat.add_mul]; omega]
      exact this
theorem ElOk.at {sz : Nat} {es : List (List Value)} (h : ElOk sz es) {i o : Nat} {e : List Value} {v : Value} (h1 : es[i]? = some e) (h2 : e[o]? = some v) : es.flatten[i * sz + o]? = some v := flat_at h2 h.len h1
theorem ElOk.sub {sz : Nat} {es es' : List (List Value)} (h : ElOk sz es) (hs : ∀ e ∈ es', e ∈ es) : ElOk sz es' := ⟨fun e he => h.len e (hs e he), fun e he => h.one e (hs e he)⟩
theorem ElOk.append {sz : Nat} {es es' : List (List Value)} (h : ElOk sz es) (h' : ElOk sz es') : ElOk sz (es ++ es') :=
  ⟨fun e he => (List.mem_append.1 he).elim (h.len e) (h'.len e), fun e he => (List.mem_append.1 he).elim (h.one e) (h'.one e)⟩
theorem ElOk.flatOne {sz : Nat} {es : List (List Value)} (h : ElOk sz es) : ∀ v ∈ es.flatten, oneC v = true := by
  intro v hv
  obtain ⟨e, he, hv⟩ := List.mem_flatten.1 hv
  exact h.one e he v hv

/-- An owned slice. -/
def osl (base : Option Addr) (cap : Nat) (T : TypeId) (sz : Nat) (es : List (List Value)) : HP :=
  ⟨fun _ f => ElOk sz es ∧ es.length ≤ cap ∧ (base = none → cap = 0) ∧ ∀ a, base = some a → a.spot = none ∧ ∃ c : List Value, f a.block = some (.cells c.toArray T (0, 0)) ∧ a.off + cap * sz ≤ c.length ∧ ∀ j v, es.flatten[j]? = some v → c[a.off + j]? = some v, fun _ h => h⟩
/-- A slice that is never written again. -/
def rsl (base : Option Addr) (cap sz : Nat) (es : List (List Value)) : HP :=
  ro (fun r => ElOk sz es ∧ es.length ≤ cap ∧ (base = none → cap = 0) ∧ ∀ a, base = some a → ∀ j v, es.flatten[j]? = some v → r.cell (a.add j) = some v) fun h ⟨g1, g2, g3, g4⟩ => ⟨g1, g2, g3, fun a ha j v e => h.cell (g4 a ha j v e)⟩
instance {base : Option Addr} {cap sz : Nat} {es : List (List Value)} : (rsl base cap sz es).Dup := ⟨fun h => h⟩
def zA : Addr := ⟨0, 0, none⟩
@[irreducible] def eltA (base : Option Addr) (i sz o : Nat) : Addr := (base.getD zA).add (i * sz + o)
theorem add_add (a : Addr) (i j : Nat) : (a.add i).add j = a.add (i + j) := by
  unfold Addr.add
  by_cases h : i = 0 <;> by_cases k : j = 0 <;> simp_all <;> omega
theorem add_off {a : Addr} (h : a.spot = none) (n : Nat) : a.add n = ⟨a.block, a.off + n, none⟩ := by
  obtain ⟨b, o, s⟩ := a
  simp at h; subst h; exact add_mk b o n
theorem eltA_add {base : Option Addr} {i sz o j : Nat} : (eltA base i sz o).add j = eltA base i sz (o + j) := by
  unfold eltA; rw [add_add, Nat.add_assoc]

theorem osl_base {base : Option Addr} {cap : Nat} {T : TypeId} {sz : Nat} {es : List (List Value)} {r f : Hp} (h : (osl base cap T sz es).p r f) (hn : 0 < es.length) : ∃ a, base = some a ∧ a.spot = none := by
  obtain ⟨_, h2, h3, h4⟩ := h
  cases base with
  | none => have := h3 rfl; omega
  | some a => exact ⟨a, rfl, (h4 a rfl).1⟩
theorem rsl_base {base : Option Addr} {cap : Nat} {sz : Nat} {es : List (List Value)} {r f : Hp} (h : (rsl base cap sz es).p r f) (hn : 0 < es.length) : ∃ a, base = some a := by
  obtain ⟨_, h2, h3, h4⟩ := h
  cases base with
  | none => have := h3 rfl; omega
  | some a => exact ⟨a, rfl⟩
theorem idx_pos {α : Type} {l : List α} {i : Nat} {x : α} (h : l[i]? = some x) : 0 < l.length := by
  cases l with
  | nil => simp at h
  | cons => simp
theorem osl_has {base : Option Addr} {cap : Nat} {T : TypeId} {sz i o : Nat} {es : List (List Value)} {e : List Value} {v : Value} (h1 : es[i]? = some e) (h2 : e[o]? = some v) : Has (osl base cap T sz es) (eltA base i sz o) v := by
  intro r f h
  left
  obtain ⟨a, rfl, hsp⟩ := osl_base h (idx_pos h1)
  obtain ⟨k1, k2, k3, k4⟩ := h
  obtain ⟨_, c, hc, hl, hv⟩ := k4 a rfl
  have := hv _ _ (k1.at h1 h2)
  unfold eltA
  simp only [Option.getD_some]
  rw [add_off hsp]
  simp [Hp.cell, hc, this]
theorem rsl_has {base : Option Addr} {cap : Nat} {sz i o : Nat} {es : List (List Value)} {e : List Value} {v : Value} (h1 : es[i]? = some e) (h2 : e[o]? = some v) : Has (rsl base cap sz es) (eltA base i sz o) v := by
  intro r f h
  right
  obtain ⟨a, rfl⟩ := rsl_base h (idx_pos h1)
  obtain ⟨k1, k2, k3, k4⟩ := h
  unfold eltA
  exact k4 a rfl _ _ (k1.at h1 h2)

section
variable {P : Program} {E : Env} {X : Xs} {b : Fx} {Post : Value → List HP → Prop} {k : List Item} {L : Tm} {s : List HP} {d : Nat} {dst : Option Nat} {ty : TypeId} {pos : String} {af : Array Edge} {gd : Option (Nat × Bool)}

theorem T.pre {α : Type} {m : Sem α} {A : List HP} {Q : α → List HP → Prop} {p : Prop} (h : ∀ r f, sep A r f → p) (g : p → T P E m A Q) : T P E m A Q := by
  intro w r f F es hs hA
  obtain ⟨f1, f2, d, l1, l2, h1, h2⟩ := sep_append.1 hA
  exact g (h _ _ h1) w r f F es hs hA
theorem T.conv {α : Type} {m : Sem α} {A A0 : List HP} {Q R : α → List HP → Prop} (h : T P E m A0 Q) (h0 : ∀ r f, sep A r f → sep A0 r f) (g : ∀ a A', Q a A' → ∃ A'', (∀ r f, sep A' r f → sep A'' r f) ∧ R a A'') : T P E m A R := by
  intro w r f F es hs hA
  obtain ⟨f1, f2, d, l1, l2, h1, h2⟩ := sep_append.1 hA
  obtain ⟨a, w1, es1, r1, f1', A1, e1, k1, q1, s1⟩ := h w r f F es hs (sep_append.2 ⟨f1, f2, d, l1, l2, h0 _ _ h1, h2⟩)
  obtain ⟨A'', i1, i2⟩ := g a A1 q1
  obtain ⟨f1, f2, d, l1, l2, h1, h2⟩ := sep_append.1 s1
  exact ⟨a, w1, es1, r1, f1', A'', e1, k1, i2, sep_append.2 ⟨f1, f2, d, l1, l2, i1 _ _ h1, h2⟩⟩
theorem Sel.pure {s F : List HP} {A : HP} {p : Prop} (hs : Sel s A F) (h : ∀ r f, A.p r f → p) : ∀ r f, sep s r f → p := fun r f hx => by
  obtain ⟨f1, f2, d, l1, l2, a, _⟩ := hs.out hx
  exact h _ _ a

/-- The place of an element. -/
theorem l_index {t e : TypeId} {agg : Bool} {sz : Nat} {z : List Value} {x y : Operand} {base : Option Addr} {n cap : Nat} {kk : IntKind} {i : Int} (h : TyU P t (.slice e)) (he : TyN P e agg sz z) (hx : ev L x = some (.slice base n cap)) (hy : ev L y = some (.int kk i)) (hb : ∀ r f, sep s r f → 0 < n → ∃ a, base = some a) (h0 : 0 ≤ i) (h1 : i < n) :
    Lt P E L s ⟨dst, .indexAddr t x y, ty, pos, af, gd⟩ (.pointer (some (eltA base i.toNat sz 0))) :=
  Lt.of rfl (fun e' he' => by
    refine T.pre (fun r f hs => hb r f hs (by omega)) ?_
    rintro ⟨a, rfl⟩
    unfold execOp; simp only [he' _ _ hx, he' _ _ hy]
    refine T.calm ((Calm.indexSlice h he h0 h1).bind (Calm.pure _)) ⟨?_, rfl⟩
    simp [eltA])
theorem l_indexO {t e T : TypeId} {agg : Bool} {sz : Nat} {z : List Value} {x y : Operand} {base : Option Addr} {n cap : Nat} {kk : IntKind} {i : Int} {es : List (List Value)} {F : List HP} (h : TyU P t (.slice e)) (he : TyN P e agg sz z) (hx : ev L x = some (.slice base n cap)) (hy : ev L y = some (.int kk i)) (hs : Sel s (osl base cap T sz es) F) (hn : es.length = n) (h0 : 0 ≤ i) (h1 : i < n) :
    Lt P E L s ⟨dst, .indexAddr t x y, ty, pos, af, gd⟩ (.pointer (some (eltA base i.toNat sz 0))) :=
  l_index h he hx hy (hs.pure fun r f hp hpos => by obtain ⟨a, h1, _⟩ := osl_base hp (by rw [hn]; exact hpos); exact ⟨a, h1⟩) h0 h1
theorem l_indexR {t e : TypeId} {agg : Bool} {sz : Nat} {z : List Value} {x y : Operand} {base : Option Addr} {n cap : Nat} {kk : IntKind} {i : Int} {es : List (List Value)} {F : List HP} (h : TyU P t (.slice e)) (he : TyN P e agg sz z) (hx : ev L x = some (.slice base n cap)) (hy : ev L y = some (.int kk i)) (hs : Sel s (rsl base cap sz es) F) (hn : es.length = n) (h0 : 0 ≤ i) (h1 : i < n) :
    Lt P E L s ⟨dst, .indexAddr t x y, ty, pos, af, gd⟩ (.pointer (some (eltA base i.toNat sz 0))) :=
  l_index h he hx hy (hs.pure fun r f hp hpos => rsl_base hp (by rw [hn]; exact hpos)) h0 h1
theorem m_fieldAddrE {t : TypeId} {x : Operand} {i o : Nat} {ft : TypeId} {base : Option Addr} {j sz off : Nat} (h : TyF P t i o ft) (hx : ev L x = some (.pointer (some (eltA base j sz off)))) : Cm P L ⟨dst, .fieldAddr t x i, ty, pos, af, gd⟩ (.pointer (some (eltA base j sz (off + o)))) := by
  rw [← eltA_add]; exact m_fieldAddr h hx
theorem m_indexArrE {t e : TypeId} {agg : Bool} {sz : Nat} {z : List Value} {x y : Operand} {base : Option Addr} {j sj off len : Nat} {kk : IntKind} {i : Int} (h : TyU P t (.array len e)) (he : TyN P e agg sz z) (hx : ev L x = some (.pointer (some (eltA base j sj off)))) (hy : ev L y = some (.int kk i)) (h0 : 0 ≤ i) (h1 : i < len) : Cm P L ⟨dst, .indexAddr t x y, ty, pos, af, gd⟩ (.pointer (some (eltA base j sj (off + i.toNat * sz)))) := by
  rw [← eltA_add]; exact m_indexArr h he hx hy h0 h1
theorem l_loadA1 {t : TypeId} {z : List Value} {x : Operand} {a : Addr} {A : HP} {v : Value} {F : List HP} (h : TyN P t false 1 z) (hx : ev L x = some (.pointer (some a))) (hs : Sel s A F) (hv : Has A a v) : Lt P E L s ⟨dst, .load t x, ty, pos, af, gd⟩ v :=
  Lt.of rfl (fun e' he => by
    unfold execOp; simp only [he _ _ hx]
    refine T.bind (Q := fun x B => x = v ∧ B = s) (T.calmBind (Calm.pure _) (T.sel hs (T.loadVar1 h hv))) ?_
    rintro x B ⟨hx', hB⟩
    exact T.calm (Calm.pure _) ⟨by rw [hx'], hB⟩)
theorem l_loadAN {t : TypeId} {sz : Nat} {z : List Value} {x : Operand} {a : Addr} {A : HP} {cs : List Value} {F : List HP} (h : TyN P t true sz z) (hx : ev L x = some (.pointer (some a))) (hs : Sel s A F) (hn : cs.length = sz) (hv : ∀ j v, cs[j]? = some v → Has A (a.add j) v) : Lt P E L s ⟨dst, .load t x, ty, pos, af, gd⟩ (.agg cs.toArray) := by
  refine Lt.of rfl (fun e' he => ?_)
  unfold execOp; simp only [he _ _ hx]
  refine T.bind (Q := fun x B => x = .agg cs.toArray ∧ B = s) (T.calmBind (Calm.pure _) (T.sel hs (T.loadVarN h hn hv))) ?_
  rintro x B ⟨hx', hB⟩
  exact T.calm (Calm.pure _) ⟨by rw [hx'], hB⟩
theorem l_loadO1 {t T : TypeId} {z : List Value} {x : Operand} {base : Option Addr} {cap i sz o : Nat} {es : List (List Value)} {e : List Value} {v : Value} {F : List HP} (h : TyN P t false 1 z) (hx : ev L x = some (.pointer (some (eltA base i sz o)))) (hs : Sel s (osl base cap T sz es) F) (he : es[i]? = some e) (hv : e[o]? = some v) : Lt P E L s ⟨dst, .load t x, ty, pos, af, gd⟩ v := l_loadA1 h hx hs (osl_has he hv)
theorem l_loadR1 {t : TypeId} {z : List Value} {x : Operand} {base : Option Addr} {cap i sz o : Nat} {es : List (List Value)} {e : List Value} {v : Value} {F : List HP} (h : TyN P t false 1 z) (hx : ev L x = some (.pointer (some (eltA base i sz o)))) (hs : Sel s (rsl base cap sz es) F) (he : es[i]? = some e) (hv : e[o]? = some v) : Lt P E L s ⟨dst, .load t x, ty, pos, af, gd⟩ v := l_loadA1 h hx hs (rsl_has he hv)
theorem l_loadON {t T : TypeId} {z : List Value} {x : Operand} {base : Option Addr} {cap i sz o n : Nat} {es : List (List Value)} {e cs : List Value} {F : List HP} (h : TyN P t true n z) (hx : ev L x = some (.pointer (some (eltA base i sz o)))) (hs : Sel s (osl base cap T sz es) F) (he : es[i]? = some e) (hv : getN e o n = some cs) : Lt P E L s ⟨dst, .load t x, ty, pos, af, gd⟩ (.agg cs.toArray) := by
  obtain ⟨h1, h2⟩ := getN_spec hv
  exact l_loadAN h hx hs h1 fun j v hj => by rw [eltA_add]; exact osl_has he (h2 j v hj)
theorem l_loadRN {t : TypeId} {z : List Value} {x : Operand} {base : Option Addr} {cap i sz o n : Nat} {es : List (List Value)} {e cs : List Value} {F : List HP} (h : TyN P t true n z) (hx : ev L x = some (.pointer (some (eltA base i sz o)))) (hs : Sel s (rsl base cap sz es) F) (he : es[i]? = some e) (hv : getN e o n = some cs) : Lt P E L s ⟨dst, .load t x, ty, pos, af, gd⟩ (.agg cs.toArray) := by
  obtain ⟨h1, h2⟩ := getN_spec hv
  exact l_loadAN h hx hs h1 fun j v hj => by rw [eltA_add]; exact rsl_has he (h2 j v hj)

theorem lay_get : ∀ (vs c : List Value) (off j : Nat), off + vs.length ≤ c.length → (lay c off vs)[j]? = if off ≤ j ∧ j < off + vs.length then vs[j - off]? else c[j]?
  | [], c, off, j, _ => by simp [lay]; omega
  | v :: vs, c, off, j, h => by
    simp only [List.length_cons] at h
    rw [lay, lay_get vs (c.set off v) (off + 1) j (by simp; omega)]
    by_cases h1 : j = off
    · subst h1
      have : ¬ (j + 1 ≤ j ∧ j < j + 1 + vs.length) := by omega
      simp only [this, if_false]
      have h2 : j ≤ j ∧ j < j + (vs.length + 1) := by omega
      simp only [List.length_cons, h2, if_true, Nat.sub_self]
      have : j < c.length := by omega
      simp [this]
    · by_cases h2 : off + 1 ≤ j ∧ j < off + 1 + vs.length
      · have h3 : off ≤ j ∧ j < off + (vs.length + 1) := by omega
        simp only [h2, h3, List.length_cons, if_true, and_self]
        rw [show j - off = (j - (off + 1)) + 1 by omega]; simp
      · have h3 : ¬ (off ≤ j ∧ j < off + (vs.length + 1)) := by omega
        simp only [h2, h3, List.length_cons, if_false]
        rw [List.getElem?_set]; simp [Ne.symm h1]
theorem flat_set {sz : Nat} : ∀ {es : List (List Value)} {i o : Nat} {e vs : List Value}, ElOk sz es → es[i]? = some e → o + vs.length ≤ sz → (es.set i (lay e o vs)).flatten = lay es.flatten (i * sz + o) vs
  | [], _, _, _, _, _, h, _ => by simp at h
  | a :: es, i, o, e, vs, hk, h, hl => by
    have ha : a.length = sz := hk.len a (by simp)
    have hk' : ElOk sz es := hk.sub fun e he => by simp [he]
    have hf := hk'.flat
    apply List.ext_getElem?
    intro j
    cases i with
    | zero =>
      simp at h; subst h
      rw [List.set_cons_zero, List.flatten_cons, List.flatten_cons, lay_get _ _ _ _ (by simp; omega)]
      by_cases hj : j < sz
      · rw [List.getElem?_append_left (by rw [lay_length]; omega), lay_get _ _ _ _ (by omega)]
        simp only [Nat.zero_mul, Nat.zero_add]
        split
        · rfl
        · rw [List.getElem?_append_left (by omega)]
      · rw [List.getElem?_append_right (by rw [lay_length]; omega), lay_length]
        have : ¬ (0 * sz + o ≤ j ∧ j < 0 * sz + o + vs.length) := by omega
        simp only [this, if_false]
        rw [List.getElem?_append_right (by omega)]
    | succ i =>
      have ih := flat_set (i := i) (o := o) (e := e) (vs := vs) hk' (by simpa using h) hl
      rw [List.set_cons_succ, List.flatten_cons, List.flatten_cons, ih]
      have hil : i < es.length := by
        have : es[i]? = some e := by simpa using h
        rw [List.getElem?_eq_some_iff] at this; exact this.1
      have hb : i * sz + sz ≤ es.length * sz := by
        have := Nat.mul_le_mul_right sz (Nat.succ_le_of_lt hil)
        rw [Nat.succ_mul] at this; exact this
      rw [lay_get _ _ _ _ (by simp [hf]; rw [Nat.add_mul]; omega)]
      by_cases hj : j < sz
      · rw [List.getElem?_append_left (by omega)]
        have : ¬ ((i + 1) * sz + o ≤ j ∧ j < (i + 1) * sz + o + vs.length) := by rw [Nat.add_mul]; omega
        simp only [this, if_false]
        rw [List.getElem?_append_left (by omega)]
      · rw [List.getElem?_append_right (by omega), lay_get _ _ _ _ (by omega)]
        rw [List.getElem?_append_right (l₁ := a) (by omega), ha]
        by_cases c : i * sz + o ≤ j - sz ∧ j - sz < i * sz + o + vs.length
        · have c' : (i + 1) * sz + o ≤ j ∧ j < (i + 1) * sz + o + vs.length := by rw [Nat.add_mul]; omega
          simp only [c, c', and_self, if_true]
          congr 1; rw [Nat.add_mul]; omega
        · have c' : ¬ ((i + 1) * sz + o ≤ j ∧ j < (i + 1) * sz + o + vs.length) := by rw [Nat.add_mul]; omega
          simp only [c, c', if_false]
end
end Go.KL
